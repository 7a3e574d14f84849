/- The package tlb: New. -/
import Derived.Test.YtfiofjalpaeohaaTlbFill
import Derived.Deep.OwnRows
namespace Go.Proofs.Ytfiofjalpaeohaa
set_option linter.unusedVariables false
set_option linter.unusedSimpArgs false
open Go.RowKit

theorem placesC0 (n : Nat) : (madeCells pl0.cells.toArray (n * 12)).toList = placesC (List.replicate n pl0) := by
  apply List.ext_getElem?
  intro k
  by_cases hk : k < n * 12
  · have e : k = k / 12 * 12 + k % 12 := by omega
    have hm : k % 12 < 12 := by omega
    have h1 : (List.replicate n pl0)[k / 12]? = some pl0 := by rw [List.getElem?_replicate, if_pos (by omega)]
    have h2 : pl0.cells[k % 12]? = some (pl0.cells[k % 12]'hm) := List.getElem?_eq_getElem _
    have h3 := flatC_get pl_len (List.replicate n pl0) (k / 12) pl0 (k % 12) _ h1 h2
    rw [← e] at h3
    rw [placesC, h3, Array.getElem?_toList]
    rw [Array.getElem?_eq_getElem (by rw [size_madeCells]; exact hk)]
    have hz : pl0.cells.toArray.size = 12 := rfl
    simp only [madeCells, Array.getElem_map, Array.getElem_range, hz]
    congr 1
    have hm' : k % 12 < pl0.cells.toArray.size := hm
    rw [getElem!_pos pl0.cells.toArray (k % 12) hm']
    rfl
  · rw [List.getElem?_eq_none (by rw [Array.length_toList, size_madeCells]; omega), List.getElem?_eq_none (by rw [placesC, flatC_length pl_len, List.length_replicate]; omega)]

theorem place_info : (Try.prog.info? 120).map (fun i => (i.zero, i.size, i.bytes)) = some (some (.agg pl0.cells.toArray), 12, 56) := by kernel_rfl
theorem make_places (n : Nat) (h : n ≤ 8) (w : World) : (Instr.makeSlice 113 (.int .i64 (n : Int)) (.int .i64 (n : Int))).run Try.prog w = .ok (.slice (some ⟨w.heap.size, 0, none⟩) n n) (w.alloc (.cells (placesC (List.replicate n pl0)).toArray 120)) := by
  obtain ⟨i, hi, hzz⟩ := Option.map_eq_some_iff.1 place_info
  simp only [Prod.mk.injEq] at hzz
  obtain ⟨hz, hs, hb⟩ := hzz
  have hb' : (i.bytes : Int) * (n : Int) ≤ 281474976710656 := by rw [hb]; omega
  have hr := run_make (P := Try.prog) w 113 120 i _ Try.underlying113 hi hz .i64 .i64 n n (by omega) (Int.le_refl _) hb' (by omega)
  simp only [Int.toNat_natCast, hs] at hr
  rw [hr]
  have e : madeCells (Value.agg pl0.cells.toArray).cells (n * 12) = (placesC (List.replicate n pl0)).toArray := by
    rw [← placesC0]
    rfl
  rw [e]
theorem rows_info : (Try.prog.info? 113).map (fun i => (i.zero, i.size, i.bytes)) = some (some (.slice none 0 0), 1, 24) := by kernel_rfl
theorem made_rows (n : Nat) : madeCells #[.slice none 0 0] n = (List.replicate n (Value.slice none 0 0)).toArray := by
  apply Array.ext
  · rw [size_madeCells]; simp
  · intro i h1 h2
    simp [madeCells, Nat.mod_one]
theorem make_rows (n : Nat) (h : n ≤ 64) (w : World) : (Instr.makeSlice 110 (.int .i64 (n : Int)) (.int .i64 (n : Int))).run Try.prog w = .ok (.slice (some ⟨w.heap.size, 0, none⟩) n n) (w.alloc (.cells (List.replicate n (Value.slice none 0 0)).toArray 113)) := by
  rw [← made_rows]
  exact run_make_row' 110 113 (.slice none 0 0) 24 Try.underlying110 rows_info rfl .i64 .i64 n (by omega) (by omega) w

/-- New has laid i of its sets. -/
structure NewAt (w : World) (p gs n wy i : Nat) (bs : List Nat) (x : World) : Prop where
  hp : x.heap[p]? = some (.cells #[.slice (some ⟨gs, 0, none⟩) n n] 112)
  hg : x.heap[gs]? = some (.cells (bs.map (fun b => Value.slice (some ⟨b, 0, none⟩) wy wy) ++ List.replicate (n - i) (Value.slice none 0 0)).toArray 113)
  lb : bs.length = i
  hb : ∀ b ∈ bs, x.heap[b]? = some (.cells (placesC (List.replicate wy pl0)).toArray 120)
  nd : bs.Nodup
  np : p ∉ bs
  ng : gs ∉ bs
  pg : p ≠ gs
  old : Old w x
  ow : w.heap.size ≤ gs
  ob : ∀ b ∈ bs, w.heap.size ≤ b
section
variable {w x : World} {p gs n wy i : Nat} {bs : List Nat}
theorem new_drew (h : NewAt w p gs n wy i bs x) : NewAt w p gs n wy i bs x.drew := { h with old := old_drew h.old, hp := h.hp, hg := h.hg, hb := h.hb }
theorem new_step (h : NewAt w p gs n wy i bs x) (hi : i < n) :
    (x.alloc (.cells (placesC (List.replicate wy pl0)).toArray 120)).cell? ⟨gs, i, none⟩ = some (.slice none 0 0) ∧
    (x.alloc (.cells (placesC (List.replicate wy pl0)).toArray 120)).frozen? ⟨gs, i, none⟩ = false ∧
    ∃ z, (x.alloc (.cells (placesC (List.replicate wy pl0)).toArray 120)).setCell ⟨gs, i, none⟩ (.slice (some ⟨x.heap.size, 0, none⟩) wy wy) = z ∧ NewAt w p gs n wy (i + 1) (bs ++ [x.heap.size]) z := by
  have hA := old_alloc (old_refl x) (.cells (placesC (List.replicate wy pl0)).toArray 120)
  have hg := keep_old hA h.hg
  have hp := keep_old hA h.hp
  have hn := new_block x (.cells (placesC (List.replicate wy pl0)).toArray 120)
  have hbs : ∀ b ∈ bs, b < x.heap.size := fun b hb => lt_of_block (h.hb b hb)
  have hgs := lt_of_block h.hg
  have hps := lt_of_block h.hp
  refine ⟨?_, frozen_of hg i, _, set_of hg i _, ?_⟩
  · rw [cell_of hg]
    rw [List.getElem?_toArray, List.getElem?_append_right (by simp [h.lb]), List.length_map, h.lb, Nat.sub_self, List.getElem?_replicate, if_pos (by omega)]
  · generalize x.alloc (.cells (placesC (List.replicate wy pl0)).toArray 120) = y at *
    have hgy := lt_of_block hg
    refine ⟨?_, ?_, by simp [h.lb], ?_, ?_, ?_, ?_, h.pg, old_put (old_then h.old hA) _ h.ow, h.ow, ?_⟩
    · rw [putB_other _ (fun e => h.pg e.symm)]; exact hp
    · rw [putB_same _ hgy]
      congr 2
      apply Array.ext'
      have e : n - i = (n - (i + 1)) + 1 := by omega
      simp only [Array.toList_setIfInBounds, List.map_append, List.map_cons, List.map_nil, e, List.replicate_succ]
      rw [List.set_append_right _ _ (by simp [h.lb])]
      simp [h.lb]
    · intro b hb
      rcases List.mem_append.1 hb with hb | hb
      · rw [putB_other _ (fun e => h.ng (by rw [e]; exact hb))]; exact keep_old hA (h.hb b hb)
      · obtain rfl := List.mem_singleton.1 hb
        rw [putB_other _ (by omega)]; exact hn
    · rw [List.nodup_append]
      exact ⟨h.nd, by simp, fun a ha b hb => by obtain rfl := List.mem_singleton.1 hb; have := hbs a ha; omega⟩
    · intro hm
      rcases List.mem_append.1 hm with hb | hb
      · exact h.np hb
      · have := List.mem_singleton.1 hb; omega
    · intro hm
      rcases List.mem_append.1 hm with hb | hb
      · exact h.ng hb
      · have := List.mem_singleton.1 hb; omega
    · intro b hm
      rcases List.mem_append.1 hm with hb | hb
      · exact h.ob b hb
      · have := List.mem_singleton.1 hb
        have := h.old.size
        omega
theorem new_done (h : NewAt w p gs n wy n bs x) (h1 : 1 ≤ n ∧ n ≤ 64) (h2 : 1 ≤ wy ∧ wy ≤ 8) : IsTlb x p gs bs n wy (List.replicate n (List.replicate wy pl0)) := by
  have hg := h.hg
  rw [Nat.sub_self, List.replicate_zero, List.append_nil] at hg
  refine ⟨h.hp, hg, h.lb, by simp, h1, h2, fun j b t hj ht => ?_, h.nd, h.np, h.ng, h.pg⟩
  have e : t = List.replicate wy pl0 := by
    rw [List.getElem?_replicate] at ht
    split at ht
    · exact (Option.some.inj ht).symm
    · cases ht
  subst e
  exact ⟨by simp, h.hb b (List.mem_of_getElem? hj)⟩
end

/-- A power of two that a TLB takes. -/
def setsB (n : Nat) : Prop := n = 1 ∨ n = 2 ∨ n = 4 ∨ n = 8 ∨ n = 16 ∨ n = 32 ∨ n = 64
/-- A TLB that is new. -/
def RetTlb (w : World) (n wy : Nat) (e : Ending) (y : World) : Prop := ∃ p gs bs, e = .returned (.tuple #[.pointer (some ⟨p, 0, none⟩), .int .i64 0]) ∧ IsTlb y p gs bs n wy (List.replicate n (List.replicate wy pl0)) ∧ Old w y ∧ w.heap.size ≤ p ∧ w.heap.size ≤ gs ∧ ∀ b ∈ bs, w.heap.size ≤ b

set_option maxHeartbeats 8000000 in
set_option maxRecDepth 100000 in
theorem tlbNew_calls (w : World) (n wy : Nat) (hn : setsB n) (hw : 1 ≤ wy ∧ wy ≤ 8) : Calls Try.prog 29 #[.int .i64 (n : Nat), .int .i64 (wy : Nat)] w (RetTlb w n wy) := by
  have hw1 : (1 : Int) ≤ wy := by omega
  have hw8 : (wy : Int) ≤ 8 := by omega
  have hn64 : n ≤ 64 := by unfold setsB at hn; omega
  have hn1 : 1 ≤ n := by unfold setsB at hn; omega
  have HN := Lib.hid hn
  have HW := Lib.hid hw
  have HN1 := Lib.hid (And.intro hn1 hn64)
  have hmr := make_rows n hn64
  have hmp := fun x => make_places wy hw.2 x
  have n1 : (1 : Int) ≤ n := by omega
  have n64 : (n : Int) ≤ 64 := by omega
  clear hn hw hn1 hn64
  go_enter Try.func29, Try.ntmps29
  go_upto_region 1 with (fail)
  go_cut [28] (fun s28 wx => s28 = .bool false ∧ w = wx)
  case first =>
    rcases HN.out with rfl | rfl | rfl | rfl | rfl | rfl | rfl
    all_goals
      clear hmr
      go_wp2
      go_meet
      case rel => exact ⟨by (first | rfl | (simp only [Value.bool.injEq, Bool.or_eq_false_iff, decide_eq_false_iff_not]; omega)), rfl⟩
  case rest =>
  obtain ⟨rfl, rfl⟩ := hcut
  go_upto_region 3 with (fail)
  go_upto_region 4 with (fail)
  have h0 : NewAt w (w.heap.size + 1) w.heap.size n wy 0 [] ((w.alloc (.cells (Array.replicate n (Value.slice none 0 0)) 113)).alloc (.cells #[.slice (some ⟨w.heap.size, 0, none⟩) n n] 112)) := by
    have a := new_block w (.cells (Array.replicate n (Value.slice none 0 0)) 113)
    have b := new_block (w.alloc (.cells (Array.replicate n (Value.slice none 0 0)) 113)) (.cells #[.slice (some ⟨w.heap.size, 0, none⟩) n n] 112)
    rw [World.size_alloc] at b
    refine ⟨b, ?_, rfl, (fun b hb => by cases hb), List.nodup_nil, by simp, by simp, by omega, old_alloc (old_alloc (old_refl w) _) _, Nat.le_refl _, fun b hb => by cases hb⟩
    rw [keep_old (old_alloc (old_refl _) _) a]
    congr 2
  have hps : w.heap.size ≤ w.heap.size + 1 := by omega
  generalize (w.alloc (.cells (Array.replicate n (Value.slice none 0 0)) 113)).alloc (.cells #[.slice (some ⟨w.heap.size, 0, none⟩) n n] 112) = W at *
  generalize hpp : w.heap.size + 1 = p at *
  generalize hgg : w.heap.size = gs at *
  have HG := Lib.hid (And.intro hpp hgg)
  have H0 := Lib.hid h0
  have HMP := Lib.hid hmp
  obtain ⟨k1, f1, z1⟩ := of_block h0.hp
  clear hpp hgg hps h0 hmr hmp f1 z1
  go_wp2
  clear k1
  go_loopw [7, 38] (fun s7 s38 wx => ∃ (i : Nat) (bs : List Nat), i ≤ n ∧ s38 = .int .i64 (i : Nat) ∧ NewAt w p gs n wy i bs wx) (fun _ s38 _ => n - (intOf s38).toNat)
  case atStart => exact ⟨0, [], by omega, rfl, H0.out⟩
  case round =>
    obtain ⟨i, bs, hi, rfl, hN⟩ := hrel
    by_cases hin : i = n
    · subst hin
      have HNW := Lib.hid hN
      clear hN hi
      go_wp2
      go_ret2
      obtain ⟨hpp, hgg⟩ := HG.out
      exact ⟨p, gs, bs, rfl, new_done HNW.out HN1.out HW.out, HNW.out.old, by omega, by omega, HNW.out.ob⟩
    · have hlt : i < n := by omega
      have i1 : (i : Int) < n := by omega
      have hmk := HMP.out wr.drew
      obtain ⟨c1, f1, z, hz, hst⟩ := new_step (new_drew hN) hlt
      obtain ⟨k1, _, _⟩ := of_block hN.hp
      obtain ⟨k2, _, _⟩ := of_block (keep_old (old_alloc (old_refl wr.drew) (.cells (placesC (List.replicate wy pl0)).toArray 120)) (new_drew hN).hp)
      have cA : wr.drew.cell? ⟨p, 0, none⟩ = some (.slice (some ⟨gs, 0, none⟩) n n) := k1 0
      have cB := k2 0
      have HST := Lib.hid hst
      have HI := Lib.hid (And.intro hlt hi)
      clear hN hin hi hlt k1 k2 hst
      generalize hwB : wr.drew.alloc (.cells (placesC (List.replicate wy pl0)).toArray 120) = wB at *
      generalize wr.drew.heap.size = nb at *
      have HB := Lib.hid hwB
      clear hwB
      go_upto_region 7 with (fail)
      refine wp_region_staged (S := StageS 6 wr.drew wB) 8 (by kernel_rfl) (by kernel_rfl) (by kernel_rfl) (by decide) rfl ?_
      (apply walkedS_cons; (focus (intro l9 wS hz hn hS; have hS9 := stage_other 0 (by decide) hS; have c9 := stage_cell hS cA cB; clear hS; go_wp2; exact ⟨rfl, rfl, hS9⟩)); rfl; (try simp only [Act.put, List.setIfInBounds_toArray, List.set_cons_succ, List.set_cons_zero]))
      (apply walkedS_cons; (focus (intro l9 wS hz hn hS; have hS9 := stage_other 1 (by decide) hS; have c9 := stage_cell hS cA cB; clear hS; go_wp2; exact ⟨rfl, rfl, hS9⟩)); rfl; (try simp only [Act.put, List.setIfInBounds_toArray, List.set_cons_succ, List.set_cons_zero]))
      (apply walkedS_cons; (focus (intro l9 wS hz hn hS; have hS9 := stage_other 2 (by decide) hS; have c9 := stage_cell hS cA cB; clear hS; go_wp2; exact ⟨rfl, rfl, hS9⟩)); rfl; (try simp only [Act.put, List.setIfInBounds_toArray, List.set_cons_succ, List.set_cons_zero]))
      (apply walkedS_cons; (focus (intro l9 wS hz hn hS; have hS9 := stage_other 3 (by decide) hS; have c9 := stage_cell hS cA cB; clear hS; go_wp2; exact ⟨rfl, rfl, hS9⟩)); rfl; (try simp only [Act.put, List.setIfInBounds_toArray, List.set_cons_succ, List.set_cons_zero]))
      (apply walkedS_cons; (focus (intro l9 wS hz hn hS; have hS9 := stage_other 4 (by decide) hS; have c9 := stage_cell hS cA cB; clear hS; go_wp2; exact ⟨rfl, rfl, hS9⟩)); rfl; (try simp only [Act.put, List.setIfInBounds_toArray, List.set_cons_succ, List.set_cons_zero]))
      (apply walkedS_cons; (focus (intro l9 wS hz hn hS; have hS9 := stage_other 5 (by decide) hS; have c9 := stage_cell hS cA cB; clear hS; go_wp2; exact ⟨rfl, rfl, hS9⟩)); rfl; (try simp only [Act.put, List.setIfInBounds_toArray, List.set_cons_succ, List.set_cons_zero]))
      apply walkedS_cons
      · intro l9 wS hz hn hS
        obtain rfl := stage_before hn hS
        clear hS
        go_wp2
        exact ⟨rfl, rfl, stage_done hz (by decide)⟩
      · rfl
      (try simp only [Act.put, List.setIfInBounds_toArray, List.set_cons_succ, List.set_cons_zero])
      (apply walkedS_cons; (focus (intro l9 wS hz hn hS; have hS9 := stage_other 7 (by decide) hS; have c9 := stage_cell hS cA cB; clear hS; go_wp2; exact ⟨rfl, rfl, hS9⟩)); rfl; (try simp only [Act.put, List.setIfInBounds_toArray, List.set_cons_succ, List.set_cons_zero]))
      apply walkedS_nil
      intro l9 wS hz9 hall hS
      obtain rfl := stage_after (hall 6 (by decide)) hS
      clear hS cA cB hmk
      show wpList _ _ _ [_] _ _
      go_wp2
      go_roundw
      case rel => exact ⟨i + 1, _, by have := HI.out.1; omega, by simp, HST.out⟩
      case measure => have := HI.out.1; (simp [intOf]) <;> omega
end Go.Proofs.Ytfiofjalpaeohaa
