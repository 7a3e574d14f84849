/- Contracts of the package disk: Take. -/
import Derived.Test.YtfiofjalpaeohaaDisk6
namespace Go.Proofs.Ytfiofjalpaeohaa
set_option linter.unusedVariables false
set_option linter.unusedSimpArgs false
open Go.RowKit

def zeros4096 : List Nat := List.replicate 4096 0
theorem zeros4096_length : zeros4096.length = 4096 := List.length_replicate

/-- A new page, all 0. -/
theorem make_page (w : World) : ∃ w', (Instr.makeSlice 31 (.int .i64 4096) (.int .i64 4096)).run Try.prog w = .ok (.slice (some ⟨w.heap.size, 0, none⟩) 4096 4096) w' ∧ Row w' w.heap.size w.heap.size 4096 zeros4096 ∧ Old w w' := by
  obtain ⟨i0, hi, hz0, hz1, hz2⟩ := info_parts u8_info
  obtain ⟨w', hrun, hown, hg⟩ := run_make_full (P := Try.prog) w w.heap.size 31 5 i0 (.int .u8 0) 1 Try.underlying31 hi hz0 hz1 .i64 .i64 4096 (by omega) (by unfold maxLen; omega) (Nat.le_refl _)
  refine ⟨w', hrun, ⟨?_, ?_⟩, old_grown (old_refl w) hg (fun g e => by cases e)⟩
  · have e : (madeCells (Value.int .u8 0).cells (4096 * 1)).toList = zeros4096.map vb := by
      rw [show (Value.int .u8 0).cells = #[.int .u8 0] from rfl, toList_madeCells_one]
      unfold zeros4096
      rw [List.map_replicate]
      rfl
    rw [zeros4096_length, ← e]
    exact hown
  · intro x hx
    have := List.eq_of_mem_replicate hx
    omega

theorem take_full (X : Nat → Prop) (p slots : Nat) (pg : Int → Option (List Nat)) (F : List Bool) (w : World) (h : IsDisk w X p slots pg F) (hc : cntOf pg slots = slots) :
    Calls Try.prog 14 #[.pointer (some ⟨p, 0, none⟩)] w (RetDisk w X p slots (.tuple #[.int .i64 0, .int .i64 12]) pg F) := by
  have hf := free_calls X p slots pg F w h
  rw [hc, Nat.sub_self] at hf
  have H := Lib.hid h
  clear h hc
  go_enter Try.func14, Try.ntmps14
  go_wp2
  refine wp_scope_labels (fun _ _ _ _ => False) ?_ (fun _ _ _ _ h => h.elim)
  go_wp2_with fail
  (with_reducible refine hf.mono ?_)
  rintro e w1 ⟨rfl, hb⟩
  have HD := Lib.hid (disk_old H.out hb)
  clear hf
  go_wp2
  simp only [toLabel]
  go_ret2
  exact ⟨rfl, HD.out, (Only.of_below hb).mono fun b _ f => f.elim⟩

/-- The frame at the label. -/
def TakeFrame (p : Nat) (j : Int) (a : Act) : Prop := ∃ u1 u2 u3 u5 u6 u7 u8 u9 u10 u11 u12 u13 u14 u15 u16 u17 u18 u19 u20 u21 u22 u23 u24 u25 u26 u27 u28 : Value, a = { tmps := #[.pointer (some ⟨p, 0, none⟩), u1, u2, u3, .int .i64 j, u5, u6, u7, u8, u9, u10, u11, u12, u13, u14, u15, u16, u17, u18, u19, u20, u21, u22, u23, u24, u25, u26, u27, u28], defers := [] }

set_option maxHeartbeats 4000000 in
set_option maxRecDepth 100000 in
theorem take_ok (X : Nat → Prop) (p slots : Nat) (pg : Int → Option (List Nat)) (F : List Bool) (i : Nat) (w : World) (h : IsDisk w X p slots pg F) (hX : ∀ b, X b → b < w.heap.size) (hi : i < slots) (hfree : pg i = none) (hleast : ∀ j : Nat, j < i → (pg j).isSome = true) :
    Calls Try.prog 14 #[.pointer (some ⟨p, 0, none⟩)] w (RetDisk w X p slots (.tuple #[.int .i64 i, .int .i64 0]) (updP pg i (some zeros4096)) F) := by
  have hf := free_calls X p slots pg F w h
  have hcl := cnt_le pg slots
  have hlt : cntOf pg slots < slots := by
    have key : ∀ n : Nat, i < n → cntOf pg n < n := by
      intro n hn
      induction n with
      | zero => omega
      | succ n ih =>
        unfold cntOf
        by_cases e : i = n
        · subst e
          rw [hfree]
          have := cnt_le pg i
          simp
          omega
        · have := ih (by omega)
          split <;> omega
    exact key slots hi
  have hfb : (((slots - cntOf pg slots : Nat) : Int) == 0) = false := by rw [beq_eq_false_iff_ne]; omega
  generalize slots - cntOf pg slots = fr at *
  have H := Lib.hid h
  clear h
  go_enter Try.func14, Try.ntmps14
  go_wp2
  refine wp_scope_labels (fun lb k a x => lb = 0 ∧ Old w x ∧ ∃ j : Nat, j ≤ i ∧ k = i - j ∧ TakeFrame p j a) ?_ ?_
  · go_wp2_with fail
    (with_reducible refine hf.mono ?_)
    rintro e w1 ⟨rfl, hb⟩
    have hO := hb
    clear hf
    go_wp2
    go_step3
    have hd := disk_old H.out hO
    have hX1 : ∀ b, X b → b < w1.drew.heap.size := fun b hbx => Nat.lt_of_lt_of_le (hX b hbx) hO.size
    have hdd := disk_old hd (old_drew (old_refl _))
    by_cases hji : (0 : Nat) < i
    · obtain ⟨l, hl⟩ := Option.isSome_iff_exists.1 (hleast (0 : Nat) hji)
      obtain ⟨m, f, fv, h1, h2, h3, h4, h5, h6, h7, h8, h9, hA⟩ := hd
      have c1 : w1.cell? ⟨p, 1, none⟩ = some (.map (some m)) := by rw [cell_of h1]; rfl
      obtain ⟨v, hv, g, c, rfl, -⟩ := h9 _ l hl
      have hlk := map_lookup (P := Try.prog) (t := 106) Try.underlying106 Try.underlying3 h3 hv
      clear h1 h3 h4 h5 h7 h8 h9 hA hv hl hX1 hdd
      have hlk : (Instr.lookup 106 (.map (some m)) (.int .i64 0) true).run Try.prog w1 = .ok (.tuple #[.slice (some ⟨g, 0, none⟩) 4096 c, .bool true]) w1 := hlk
      go_wp2
      go_step3
      exact ⟨i - 1, rfl, hO, 1, by omega, rfl, _, _, _, _, _, _, _, _, _, _, _, _, _, _, _, _, _, _, _, _, _, _, _, _, _, _, _, rfl⟩
    · obtain rfl : i = 0 := by omega
      clear hdd
      obtain ⟨m, f, fv, h1, h2, h3, h4, h5, h6, h7, h8, h9, hA⟩ := hd
      have c1 : w1.cell? ⟨p, 1, none⟩ = some (.map (some m)) := by rw [cell_of h1]; rfl
      have hlk := map_miss (P := Try.prog) (t := 106) Try.underlying106 Try.underlying3 (zero_bytes w1) h3 (h8 _ hfree)
      have od : Old w1 w1.drew := old_drew (old_refl _)
      replace h1 := keep_old od h1
      replace h3 := isMap_old h3 od
      replace hA := fails_only hA (Only.of_below od) fun _ _ _ _ f => f
      replace h9 : ∀ k l, pg k = some l → ∃ v, f k = some v ∧ PageIs w1.drew X p m v l := fun k l hk => by
        obtain ⟨v, a, b⟩ := h9 k l hk
        exact ⟨v, a, page_only b (Only.of_below od) fun _ _ _ _ f => f⟩
      obtain ⟨w2, hrun, hrow2, hO2⟩ := make_page w1.drew
      obtain ⟨w3, hput, hmap3, ho3⟩ := map_put (P := Try.prog) (t := 106) Try.underlying106 Try.underlying3 (isMap_old h3 hO2) 0 (.slice (some ⟨w1.heap.size, 0, none⟩) 4096 4096)
      have hfin := put_page h1 h2 h3 h4 h5 h6 h7 h8 h9 hA hX1 hO2 hrow2 zeros4096_length (by omega) (by omega) hmap3 ho3
      have cA : w1.drew.cell? ⟨p, 1, none⟩ = some (.map (some m)) := by rw [cell_of h1]; rfl
      have cB : w2.cell? ⟨p, 1, none⟩ = some (.map (some m)) := by rw [cell_of (keep_old hO2 h1)]; rfl
      have HF := Lib.hid hfin
      clear hfin h1 h3 h4 h5 h6 h7 h8 h9 hA hmap3 ho3 hO2 hrow2 hX1 od
      have hlk : (Instr.lookup 106 (.map (some m)) (.int .i64 0) true).run Try.prog w1 = .ok (.tuple #[.slice none 0 0, .bool false]) w1 := hlk
      go_wp2_with fail
      refine wp_region_staged (S := StageS 5 w1.drew w2) 6 (by kernel_rfl) (by kernel_rfl) (by kernel_rfl) (by decide) rfl ?_
      (apply walkedS_cons; (focus (intro l9 wS hz hn hS; have hS9 := stage_other 0 (by decide) hS; have c9 := stage_cell hS cA cB; clear hS; go_wp2; exact ⟨rfl, rfl, hS9⟩)); rfl; (try simp only [Act.put, List.setIfInBounds_toArray, List.set_cons_succ, List.set_cons_zero]))
      (apply walkedS_cons; (focus (intro l9 wS hz hn hS; have hS9 := stage_other 1 (by decide) hS; have c9 := stage_cell hS cA cB; clear hS; go_wp2; exact ⟨rfl, rfl, hS9⟩)); rfl; (try simp only [Act.put, List.setIfInBounds_toArray, List.set_cons_succ, List.set_cons_zero]))
      (apply walkedS_cons; (focus (intro l9 wS hz hn hS; have hS9 := stage_other 2 (by decide) hS; have c9 := stage_cell hS cA cB; clear hS; go_wp2; exact ⟨rfl, rfl, hS9⟩)); rfl; (try simp only [Act.put, List.setIfInBounds_toArray, List.set_cons_succ, List.set_cons_zero]))
      (apply walkedS_cons; (focus (intro l9 wS hz hn hS; have hS9 := stage_other 3 (by decide) hS; have c9 := stage_cell hS cA cB; clear hS; go_wp2; exact ⟨rfl, rfl, hS9⟩)); rfl; (try simp only [Act.put, List.setIfInBounds_toArray, List.set_cons_succ, List.set_cons_zero]))
      (apply walkedS_cons; (focus (intro l9 wS hz hn hS; have hS9 := stage_other 4 (by decide) hS; have c9 := stage_cell hS cA cB; clear hS; go_wp2; exact ⟨rfl, rfl, hS9⟩)); rfl; (try simp only [Act.put, List.setIfInBounds_toArray, List.set_cons_succ, List.set_cons_zero]))
      apply walkedS_cons
      · intro l9 wS hz hn hS
        obtain rfl := stage_before hn hS
        clear hS
        go_wp2
        exact ⟨rfl, rfl, stage_done hz (by decide)⟩
      · rfl
      apply walkedS_nil
      intro l9 wS hz hall hS
      obtain rfl := stage_after (hall 5 (by decide)) hS
      clear hS
      show wpList _ _ _ [_] _ _
      go_wp2
      try simp only [toLabel]
      go_ret2
      exact ⟨rfl, HF.out.1, (((Only.of_below hO).mono fun b _ f => f.elim).drew).trans HF.out.2⟩
  · rintro lb k a x ⟨rfl, hO, j, hj, rfl, hfr⟩
    obtain ⟨u1, u2, u3, u5, u6, u7, u8, u9, u10, u11, u12, u13, u14, u15, u16, u17, u18, u19, u20, u21, u22, u23, u24, u25, u26, u27, u28, rfl⟩ := hfr
    refine ⟨_, rfl, ?_⟩
    clear hf
    have hd := disk_old H.out hO
    have hX1 : ∀ b, X b → b < x.drew.heap.size := fun b hbx => Nat.lt_of_lt_of_le (hX b hbx) hO.size
    have hdd := disk_old hd (old_drew (old_refl _))
    by_cases hji : j < i
    · obtain ⟨l, hl⟩ := Option.isSome_iff_exists.1 (hleast j hji)
      obtain ⟨m, f, fv, h1, h2, h3, h4, h5, h6, h7, h8, h9, hA⟩ := hd
      have c1 : x.cell? ⟨p, 1, none⟩ = some (.map (some m)) := by rw [cell_of h1]; rfl
      obtain ⟨v, hv, g, c, rfl, -⟩ := h9 _ l hl
      have hlk := map_lookup (P := Try.prog) (t := 106) Try.underlying106 Try.underlying3 h3 hv
      clear h1 h3 h4 h5 h7 h8 h9 hA hv hl hX1 hdd
      
      go_wp2
      go_step3
      exact ⟨i - (j + 1), by omega, rfl, hO, j + 1, by omega, rfl, by rw [Int.natCast_add]; exact ⟨_, _, _, _, _, _, _, _, _, _, _, _, _, _, _, _, _, _, _, _, _, _, _, _, _, _, _, rfl⟩⟩
    · obtain rfl : j = i := by omega
      clear hdd
      obtain ⟨m, f, fv, h1, h2, h3, h4, h5, h6, h7, h8, h9, hA⟩ := hd
      have c1 : x.cell? ⟨p, 1, none⟩ = some (.map (some m)) := by rw [cell_of h1]; rfl
      have hlk := map_miss (P := Try.prog) (t := 106) Try.underlying106 Try.underlying3 (zero_bytes x) h3 (h8 _ hfree)
      have od : Old x x.drew := old_drew (old_refl _)
      replace h1 := keep_old od h1
      replace h3 := isMap_old h3 od
      replace hA := fails_only hA (Only.of_below od) fun _ _ _ _ f => f
      replace h9 : ∀ k l, pg k = some l → ∃ v, f k = some v ∧ PageIs x.drew X p m v l := fun k l hk => by
        obtain ⟨v, a, b⟩ := h9 k l hk
        exact ⟨v, a, page_only b (Only.of_below od) fun _ _ _ _ f => f⟩
      obtain ⟨w2, hrun, hrow2, hO2⟩ := make_page x.drew
      obtain ⟨w3, hput, hmap3, ho3⟩ := map_put (P := Try.prog) (t := 106) Try.underlying106 Try.underlying3 (isMap_old h3 hO2) (j : Int) (.slice (some ⟨x.heap.size, 0, none⟩) 4096 4096)
      have hfin := put_page h1 h2 h3 h4 h5 h6 h7 h8 h9 hA hX1 hO2 hrow2 zeros4096_length (by omega) (by omega) hmap3 ho3
      have cA : x.drew.cell? ⟨p, 1, none⟩ = some (.map (some m)) := by rw [cell_of h1]; rfl
      have cB : w2.cell? ⟨p, 1, none⟩ = some (.map (some m)) := by rw [cell_of (keep_old hO2 h1)]; rfl
      have HF := Lib.hid hfin
      clear hfin h1 h3 h4 h5 h6 h7 h8 h9 hA hmap3 ho3 hO2 hrow2 hX1 od
      
      go_wp2_with fail
      refine wp_region_staged (S := StageS 5 x.drew w2) 6 (by kernel_rfl) (by kernel_rfl) (by kernel_rfl) (by decide) rfl ?_
      (apply walkedS_cons; (focus (intro l9 wS hz hn hS; have hS9 := stage_other 0 (by decide) hS; have c9 := stage_cell hS cA cB; clear hS; go_wp2; exact ⟨rfl, rfl, hS9⟩)); rfl; (try simp only [Act.put, List.setIfInBounds_toArray, List.set_cons_succ, List.set_cons_zero]))
      (apply walkedS_cons; (focus (intro l9 wS hz hn hS; have hS9 := stage_other 1 (by decide) hS; have c9 := stage_cell hS cA cB; clear hS; go_wp2; exact ⟨rfl, rfl, hS9⟩)); rfl; (try simp only [Act.put, List.setIfInBounds_toArray, List.set_cons_succ, List.set_cons_zero]))
      (apply walkedS_cons; (focus (intro l9 wS hz hn hS; have hS9 := stage_other 2 (by decide) hS; have c9 := stage_cell hS cA cB; clear hS; go_wp2; exact ⟨rfl, rfl, hS9⟩)); rfl; (try simp only [Act.put, List.setIfInBounds_toArray, List.set_cons_succ, List.set_cons_zero]))
      (apply walkedS_cons; (focus (intro l9 wS hz hn hS; have hS9 := stage_other 3 (by decide) hS; have c9 := stage_cell hS cA cB; clear hS; go_wp2; exact ⟨rfl, rfl, hS9⟩)); rfl; (try simp only [Act.put, List.setIfInBounds_toArray, List.set_cons_succ, List.set_cons_zero]))
      (apply walkedS_cons; (focus (intro l9 wS hz hn hS; have hS9 := stage_other 4 (by decide) hS; have c9 := stage_cell hS cA cB; clear hS; go_wp2; exact ⟨rfl, rfl, hS9⟩)); rfl; (try simp only [Act.put, List.setIfInBounds_toArray, List.set_cons_succ, List.set_cons_zero]))
      apply walkedS_cons
      · intro l9 wS hz hn hS
        obtain rfl := stage_before hn hS
        clear hS
        go_wp2
        exact ⟨rfl, rfl, stage_done hz (by decide)⟩
      · rfl
      apply walkedS_nil
      intro l9 wS hz hall hS
      obtain rfl := stage_after (hall 5 (by decide)) hS
      clear hS
      show wpList _ _ _ [_] _ _
      go_wp2
      try simp only [toLabel]
      go_ret2
      exact ⟨rfl, HF.out.1, (((Only.of_below hO).mono fun b _ f => f.elim).drew).trans HF.out.2⟩
end Go.Proofs.Ytfiofjalpaeohaa
