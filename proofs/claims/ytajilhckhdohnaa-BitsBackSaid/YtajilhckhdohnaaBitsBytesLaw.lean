/- The statement BitsBytes: its walk. -/
import Derived.Test.YtajilhckhdohnaaBitsFew
import Derived.Test.YtajilhckhdohnaaBitsFields
namespace Go.Proofs.Ytajilhckhdohnaa
set_option linter.unusedVariables false
set_option linter.unusedSimpArgs false
open Go.RowKit

theorem slice_any (w : World) (ad : Option Addr) (n cap len : Nat) (h : n ≤ cap) : (Instr.slice 22 (.slice ad len cap) none (some (.int .i64 n)) none).run Try.prog w = .ok (.slice ad n cap) w := by
  rw [run_slice_h (P := Try.prog) w 22 ad len cap rfl .i64 n (by omega) (by omega)]
  have hs : (sizeOf (Try.prog.elem 22)).run Try.prog w = .ok 1 w := by kernel_rfl
  rw [hs]
  cases ad <;> simp [Result.andThen, sliced, Addr.add]

theorem conv_nil (w : World) : (convert 22 9 (.slice none 0 0)).run Try.prog w = .ok (.string (strOf [])) w := by
  rw [run_convert_bytes_string w 22 9 5 none 0 0 Try.underlying22 Try.underlying5 Try.underlying9]
  rfl
theorem conv_any {w : World} {ad : Option Addr} {c : Nat} {l : List Nat} (h : Bytes w ad c l) : (convert 22 9 (.slice ad l.length c)).run Try.prog w = .ok (.string (strOf l)) w := by
  rcases ad with _ | a
  · have hc := h.2.2.1 rfl
    have hl : l = [] := by
      cases l with
      | nil => rfl
      | cons x l => have := h.1; simp at this; omega
    subst hc hl
    exact conv_nil w
  · exact conv_bytes h
theorem bytes_prefix {w : World} {ad : Option Addr} {c : Nat} {l m : List Nat} (h : Bytes w ad c (l ++ m)) : Bytes w ad c l := by
  have := bytes_take h l.length
  rwa [List.take_left'  rfl] at this

theorem checkN_cases (n : Nat) (p s : Int) : (∃ e, checkN n p s = e ∧ e ≠ 0) ∨ (checkN n p s = 0 ∧ ∃ p' s' : Nat, p = p' ∧ s = s' ∧ p' + s' ≤ n ∧ 1 ≤ s' ∧ s' ≤ 8) := by
  by_cases hs : s = 1 ∨ s = 2 ∨ s = 4 ∨ s = 8
  · by_cases h2 : p % s = 0
    · by_cases h3 : p < 0 ∨ (n : Int) < p + s
      · exact .inl ⟨2, checkN_range hs h2 h3, by decide⟩
      · exact .inr ⟨checkN_ok hs h2 h3, p.toNat, s.toNat, by omega, by omega, by omega, by omega, by omega⟩
    · exact .inl ⟨3, checkN_align hs h2, by decide⟩
  · exact .inl ⟨1, checkN_arg hs, by decide⟩

theorem flip_byte (x : Nat) (hx : x < 256) : bits .xor .u8 (if IntKind.u8.signed = true then -1 else IntKind.u8.max) (x : Int) = ((255 - x : Nat) : Int) := by
  have h : ∀ y : _root_.Fin 256, bits .xor .u8 (if IntKind.u8.signed = true then -1 else IntKind.u8.max) ((y.1 : Nat) : Int) = ((255 - y.1 : Nat) : Int) := by decide +kernel
  exact h ⟨x, hx⟩

set_option maxHeartbeats 4000000 in
set_option maxRecDepth 100000 in
theorem bitsBytes_fail (ad : Option Addr) (l : List Nat) (c : Nat) (p s : Int) (v : Int) (w : World) (hB : Bytes w ad c l) (e0 : Int) (he : checkN (l.take 200).length p s = e0) (he0 : e0 ≠ 0) :
    Calls Try.prog 3 #[.slice ad l.length c, .int .i64 p, .int .i64 s, .int .u64 v] w (RetB w (.bool true)) := by
  have hn : l.length ≤ maxLen := Nat.le_trans hB.1 hB.2.1
  have hLl : (l.take 200).length ≤ l.length := by rw [List.length_take]; exact Nat.min_le_right _ _
  have hLm : (l.take 200).length ≤ maxLen := Nat.le_trans hLl hn
  have hBt := bytes_take hB 200
  have hfew := few_calls ad l c w hB
  unfold RetFew at hfew
  generalize l.take 200 = L at *
  have hL63 : L.length + 1 ≤ 9223372036854775807 + 1 := by have : L.length ≤ 9223372036854775807 := hLm; omega
  have hcn := conv_nil
  go_enter Try.func3, Try.ntmps3
  go_wp2_with fail
  (with_reducible refine hfew.mono ?_)
  rintro e w1 ⟨g, cap, rfl, hrow, hO1⟩
  clear hfew
  go_wp2_with fail
  (with_reducible refine (get_fail _ _ cap p s _ hLm e0 he he0).mono ?_)
  rintro e w2 ⟨rfl, hb2⟩
  go_wp2_with fail
  (with_reducible refine (refGet_fail _ _ cap p s _ hLm e0 he he0).mono ?_)
  rintro e w3 ⟨rfl, hb3⟩
  go_wp2_with fail
  (with_reducible refine (put_fail _ _ cap p s v _ hLm e0 he he0).mono ?_)
  rintro e w4 ⟨rfl, hb4⟩
  go_wp2_with fail
  (with_reducible refine (refPut_fail _ _ cap p s v _ hLm e0 he he0).mono ?_)
  rintro e w5 ⟨rfl, hb5⟩
  have hO5 := old_then hO1 (old_then (old_then (old_then hb2 hb3) hb4) hb5)
  have hrow5 := row_old hrow (old_then (old_then (old_then hb2 hb3) hb4) hb5)
  have HB := Lib.hid hBt
  clear hb2 hb3 hb4 hb5 hrow hO1 hBt hB
  have HR := Lib.hid hrow5
  clear hrow5
  obtain ⟨i0, hi, hz0, hz1, hz2⟩ := info_parts u8_info
  have hp := row_parts HR.out
  have hlen : (L ++ [165]).length = L.length + 1 := by rw [List.length_append]; rfl
  rw [hlen] at hp
  have hcap1 : L.length + 1 ≤ cap := hp.2.2.1
  have hLc : L.length ≤ c := HB.out.1
  have hmark : (L ++ [165])[L.length]? = some 165 := by rw [List.getElem?_append_right (Nat.le_refl _)]; simp
  have hcap63 : cap ≤ 9223372036854775807 := hp.2.2.2
  clear hp hlen
  go_upto_region 9 with (fail)
  go_loopw [18] (fun v wr => v = .int .i64 0 ∧ wr = w5) (fun _ _ => 0)
  case atStart => exact ⟨rfl, rfl⟩
  case round =>
  obtain ⟨rfl, rfl⟩ := hrel
  go_wp2_with (at_builtin; refine wpList_append_own _ rfl _ _ 22 rfl w.heap.size 5 i0 (.int .u8 0) 1 1 Try.underlying22 hi hz0 hz1 hz2 rfl (by decide) _ _ [] rfl (World.ownsRow_nil _ _ _ _) ⟨wr.heap.size, 0, none⟩ 1 1 [.int .u8 1] rfl rfl (one_new _ _ _) (by simp [Value.oneCell']) (by unfold maxLen; omega) (by omega) (old_alloc hO5 _).size ?_; intro v6 w6 hown6 hgrow6 h9; clear h9)
  have hO7 := old_grown (old_alloc hO5 _) hgrow6 (fun g e => by cases e)
  have HR7 := Lib.hid (row_old HR.out (old_grown (old_alloc (old_refl wr) _) hgrow6 (fun g e => by cases e)))
  clear hown6 hgrow6 HR hO5
  refine wp_region_walked (S := fun x => Old w x ∧ Row x w.heap.size g cap (L ++ [165])) (by kernel_rfl) (by kernel_rfl) ⟨hO7.drew, row_old HR7.out (old_drew (old_refl _))⟩ ?_
  repeat (apply walked_cons; (first | exact gives_and rfl rfl rfl rfl | exact gives_or rfl rfl rfl rfl | (focus (intro wS hS; have q1 := conv_bytes (bytes_prefix (row_bytes hS.2)); have q2 := slice_any wS ad L.length c l.length hLc; have q3 := conv_any (bytes_old HB.out hS.1); have q4 : (Instr.slice 22 (.slice (some ⟨g, 0, none⟩) L.length cap) none (some (.int .i64 ((L.length : Int) + 1)))  none).run Try.prog wS = .ok (.slice (some ⟨g, 0, none⟩) (L.length + 1) cap) wS := slice_any wS (some ⟨g, 0, none⟩) (L.length + 1) cap L.length hcap1; have q5 : wS.cell? ⟨g, L.length, none⟩ = some (.int .u8 165) := row_cell (x := 165) hS.2 hmark; go_wp2_with ((go_at_call 19; (with_reducible refine (bitsTold_calls _).mono ?_); rintro e w9 ⟨rfl, hb9⟩)); (first | exact ⟨rfl, rfl, hS⟩ | exact ⟨rfl, rfl, old_then hS.1 hb9, row_old hS.2 hb9⟩); done)) | (focus (apply gives_guard; (focus (first | exact wanted_yes rfl rfl rfl | exact wanted_no rfl rfl rfl | exact wanted_yes2 rfl rfl rfl | exact wanted_no2 rfl rfl rfl)); (focus (intro hx9; (try simp only [Bool.not_eq_true', Bool.and_eq_true, Bool.not_not] at hx9); (try obtain ⟨hx9, hy9⟩ := hx9); (try subst hy9); (try subst hx9); (first | exact gives_and rfl rfl rfl rfl | exact gives_or rfl rfl rfl rfl | (intro wS hS; have q1 := conv_bytes (bytes_prefix (row_bytes hS.2)); have q2 := slice_any wS ad L.length c l.length hLc; have q3 := conv_any (bytes_old HB.out hS.1); have q4 : (Instr.slice 22 (.slice (some ⟨g, 0, none⟩) L.length cap) none (some (.int .i64 ((L.length : Int) + 1)))  none).run Try.prog wS = .ok (.slice (some ⟨g, 0, none⟩) (L.length + 1) cap) wS := slice_any wS (some ⟨g, 0, none⟩) (L.length + 1) cap L.length hcap1; have q5 : wS.cell? ⟨g, L.length, none⟩ = some (.int .u8 165) := row_cell (x := 165) hS.2 hmark; go_wp2_with ((go_at_call 19; (with_reducible refine (bitsTold_calls _).mono ?_); rintro e w9 ⟨rfl, hb9⟩)); (first | exact ⟨rfl, rfl, hS⟩ | exact ⟨rfl, rfl, old_then hS.1 hb9, row_old hS.2 hb9⟩); done))))))); rfl; (try simp only [Act.put, List.setIfInBounds_toArray, List.set_cons_succ, List.set_cons_zero]))
  apply walked_nil
  intro wS hS
  have hF := hS.1
  clear hS
  go_wp2
  go_ret
  exact ⟨rfl, hF⟩

theorem row_grown {w w' : World} {B g cap : Nat} {l : List Nat} {row : Option Nat} (h : Row w B g cap l) (hg : w.grownBy w' row) (hne : some g ≠ row) : Row w' B g cap l :=
  ⟨h.1.kept hg (.inr hne), h.2⟩

set_option maxHeartbeats 4000000 in
set_option maxRecDepth 100000 in
theorem bitsBytes_ok (ad : Option Addr) (l : List Nat) (c : Nat) (p s v : Nat) (w : World) (hB : Bytes w ad c l) (hv : v < 18446744073709551616) (h0 : checkN (l.take 200).length p s = 0) (hps : p + s ≤ (l.take 200).length) (hs1 : 1 ≤ s) (hs8 : s ≤ 8) :
    Calls Try.prog 3 #[.slice ad l.length c, .int .i64 p, .int .i64 s, .int .u64 v] w (RetB w (.bool true)) := by
  have hn : l.length ≤ maxLen := Nat.le_trans hB.1 hB.2.1
  have hLl : (l.take 200).length ≤ l.length := by rw [List.length_take]; exact Nat.min_le_right _ _
  have hL200 : (l.take 200).length ≤ 200 := by rw [List.length_take]; exact Nat.min_le_left _ _
  have hBt := bytes_take hB 200
  have hfew := few_calls ad l c w hB
  unfold RetFew at hfew
  generalize l.take 200 = L at *
  have hPl := putL_length L p v s
  go_enter Try.func3, Try.ntmps3
  go_wp2_with fail
  (with_reducible refine hfew.mono ?_)
  rintro e w1 ⟨g, cap, rfl, hrow, hO1⟩
  clear hfew
  go_wp2_with fail
  (with_reducible refine (get_ok _ L cap p s p s rfl rfl _ (bytes_prefix (row_bytes hrow)) h0 hps hs1 hs8).mono ?_)
  rintro e w2 ⟨rfl, hb2⟩
  have hrow2 := row_old hrow hb2
  go_wp2_with fail
  (with_reducible refine (refGet_ok _ L cap p s p s rfl rfl _ (bytes_prefix (row_bytes hrow2)) h0 hps hs1 hs8).mono ?_)
  rintro e w3 ⟨rfl, hb3⟩
  have hrow3 := row_old hrow2 hb3
  have hput := put_ok _ L cap p s v p s v rfl rfl rfl _ (bytes_prefix (row_bytes hrow3)) h0 hps hs1 hs8 (by omega)
  have hput2 := fun w9 (hr : Row w9 w.heap.size g cap (L ++ [165])) => refPut_ok _ L cap p s v p s v rfl rfl rfl _ (bytes_prefix (row_bytes hr)) hv h0 hps hs1 hs8 (by omega)
  unfold RetRow at hput hput2
  generalize putL L p v s = P at *
  go_wp2_with fail
  (with_reducible refine hput.mono ?_)
  rintro e w4 ⟨gp, cp, rfl, hrowp, hb4⟩
  have hrow4 := row_old hrow3 hb4
  clear hput
  go_wp2_with fail
  (with_reducible refine (hput2 _ hrow4).mono ?_)
  rintro e w5 ⟨gq, cq, rfl, hrowq, hb5⟩
  clear hput2
  have hO5 := old_then hO1 (old_then (old_then (old_then hb2 hb3) hb4) hb5)
  have hrow5 := row_old hrow4 hb5
  have hrowp5 := row_old hrowp hb5
  have hgne : gp ≠ g := by
    have a1 := (row_parts hrowp).1
    have a2 := (row_parts hrow3).2.1
    omega
  have hgp : w.heap.size ≤ gp := by
    have a1 := (row_parts hrowp).1
    have a2 := (old_then (old_then hO1 hb2) hb3).size
    omega
  have qp := conv_bytes (row_bytes hrowp5)
  have qq := conv_bytes (row_bytes hrowq)
  rw [hPl] at qp qq
  have HB := Lib.hid hBt
  have hcp := row_parts hrowp
  have hcp63 : cp ≤ 9223372036854775807 := hcp.2.2.2
  have hpcp : L.length ≤ cp := by rw [← hPl]; exact hcp.2.2.1
  obtain ⟨i0, hi, hz0, hz1, hz2⟩ := info_parts u8_info
  have hp := row_parts hrow5
  have hlen : (L ++ [165]).length = L.length + 1 := by rw [List.length_append]; rfl
  rw [hlen] at hp
  have hcap1 : L.length + 1 ≤ cap := hp.2.2.1
  have hLc : L.length ≤ c := hBt.1
  have hmark : (L ++ [165])[L.length]? = some 165 := by rw [List.getElem?_append_right (Nat.le_refl _)]; simp
  have hcap63 : cap ≤ 9223372036854775807 := hp.2.2.2
  have HR := Lib.hid hrow5
  have HP := Lib.hid hrowp5
  clear hp hlen hcp hrow hrow2 hrow3 hrow4 hrow5 hrowp hrowp5 hrowq hb2 hb3 hb4 hb5 hO1 hBt hB
  go_upto_region 9 with (fail)
  clear qp qq
  go_loopw [18] (fun i wr => ∃ (k : Nat) (M : List Nat), i = .int .i64 k ∧ k ≤ L.length ∧ M.length = L.length ∧ Row wr w3.heap.size gp cp M ∧ Row wr w.heap.size g cap (L ++ [165]) ∧ Old w wr) (fun i _ => (201 - intOf i).toNat)
  case atStart => exact ⟨0, P, rfl, by omega, hPl, HP.out, HR.out, hO5⟩
  case round =>
  clear HP HR hO5
  obtain ⟨k, M, rfl, hk, hM, hrp, hrg, hO⟩ := hrel
  by_cases hkP : k < L.length
  · obtain ⟨x, hx⟩ : ∃ x, M[k]? = some x := ⟨_, List.getElem?_eq_getElem (by omega)⟩
    have hx256 := hrp.2 x (List.mem_of_getElem? hx)
    have ck := row_cell hrp hx
    have fk := row_frozen hrp k
    have hflip := flip_byte x hx256
    have hnew := row_set hrp k (255 - x) (by omega)
    have hold := old_set hO hgp k (.int .u8 (255 - x : Nat))
    have hgr := row_only hrg (row_set_only wr gp k (.int .u8 (255 - x : Nat))) (fun e => hgne e.symm)
    generalize 255 - x = y at *
    generalize hW : wr.setCell ⟨gp, k, none⟩ (.int .u8 y) = W at *
    have HN := Lib.hid hnew
    have HG := Lib.hid hgr
    clear hnew hgr hrp hrg hx
    go_wp2
    go_roundw
    case rel => exact ⟨k + 1, M.set k y, by go_num, by omega, by rw [List.length_set]; exact hM, HN.out, HG.out, hold⟩
    case measure => (simp [intOf]) <;> omega
  · obtain rfl : k = L.length := by omega
    have hown := hrp.1
    rw [hM] at hown
    have HR := Lib.hid hrg
    have hw3 : w3.heap.size ≤ (wr.alloc (.cells #[.int .u8 1] 5)).heap.size := by
      have a1 := row_parts hrp
      exact Nat.le_trans (Nat.le_of_lt (Nat.lt_of_le_of_lt a1.1 a1.2.1)) (old_alloc (old_refl wr) _).size
    clear hrg hrp
    go_wp2_with (at_builtin; refine wpList_append_own _ rfl _ _ 22 rfl w3.heap.size 5 i0 (.int .u8 0) 1 1 Try.underlying22 hi hz0 hz1 hz2 rfl (by decide) _ _ _ rfl (hown.alloc _) ⟨wr.heap.size, 0, none⟩ 1 1 [.int .u8 1] rfl rfl (one_new _ _ _) (by simp [Value.oneCell']) (by unfold maxLen; omega) (by omega) hw3 ?_; intro v6 w6 hown6 hgrow6 h9; clear h9)
    have hO7 := old_grown (old_alloc hO _) hgrow6 (fun g e => by
      have e' : some gp = some g := e
      have := Option.some.inj e'
      omega)
    have HR7 := Lib.hid (row_grown (row_old HR.out (old_alloc (old_refl wr) _)) hgrow6 (fun e => hgne (Option.some.inj (show some g = some gp from e)).symm))
    clear hown6 hgrow6 HR hO hown
    refine wp_region_walked (S := fun x => Old w x ∧ Row x w.heap.size g cap (L ++ [165])) (by kernel_rfl) (by kernel_rfl) ⟨hO7.drew, row_old HR7.out (old_drew (old_refl _))⟩ ?_
    repeat (apply walked_cons; (first | exact gives_and rfl rfl rfl rfl | exact gives_or rfl rfl rfl rfl | (focus (intro wS hS; have q1 := conv_bytes (bytes_prefix (row_bytes hS.2)); have q2 := slice_any wS ad L.length c l.length hLc; have q3 := conv_any (bytes_old HB.out hS.1); have q4 : (Instr.slice 22 (.slice (some ⟨g, 0, none⟩) L.length cap) none (some (.int .i64 ((L.length : Int) + 1)))  none).run Try.prog wS = .ok (.slice (some ⟨g, 0, none⟩) (L.length + 1) cap) wS := slice_any wS (some ⟨g, 0, none⟩) (L.length + 1) cap L.length hcap1; have q5 : wS.cell? ⟨g, L.length, none⟩ = some (.int .u8 165) := row_cell (x := 165) hS.2 hmark; go_wp2_with ((go_at_call 19; (with_reducible refine (bitsTold_calls _).mono ?_); rintro e w9 ⟨rfl, hb9⟩)); (first | exact ⟨rfl, rfl, hS⟩ | exact ⟨rfl, rfl, old_then hS.1 hb9, row_old hS.2 hb9⟩); done)) | (focus (apply gives_guard; (focus (first | exact wanted_yes rfl rfl rfl | exact wanted_no rfl rfl rfl | exact wanted_yes2 rfl rfl rfl | exact wanted_no2 rfl rfl rfl)); (focus (intro hx9; (try simp only [Bool.not_eq_true', Bool.and_eq_true, Bool.not_not] at hx9); (try obtain ⟨hx9, hy9⟩ := hx9); (try subst hy9); (try subst hx9); (first | exact gives_and rfl rfl rfl rfl | exact gives_or rfl rfl rfl rfl | (intro wS hS; have q1 := conv_bytes (bytes_prefix (row_bytes hS.2)); have q2 := slice_any wS ad L.length c l.length hLc; have q3 := conv_any (bytes_old HB.out hS.1); have q4 : (Instr.slice 22 (.slice (some ⟨g, 0, none⟩) L.length cap) none (some (.int .i64 ((L.length : Int) + 1)))  none).run Try.prog wS = .ok (.slice (some ⟨g, 0, none⟩) (L.length + 1) cap) wS := slice_any wS (some ⟨g, 0, none⟩) (L.length + 1) cap L.length hcap1; have q5 : wS.cell? ⟨g, L.length, none⟩ = some (.int .u8 165) := row_cell (x := 165) hS.2 hmark; go_wp2_with ((go_at_call 19; (with_reducible refine (bitsTold_calls _).mono ?_); rintro e w9 ⟨rfl, hb9⟩)); (first | exact ⟨rfl, rfl, hS⟩ | exact ⟨rfl, rfl, old_then hS.1 hb9, row_old hS.2 hb9⟩); done))))))); rfl; (try simp only [Act.put, List.setIfInBounds_toArray, List.set_cons_succ, List.set_cons_zero]))
    apply walked_nil
    intro wS hS
    have hF := hS.1
    clear hS
    go_wp2
    go_ret
    exact ⟨rfl, hF⟩

theorem bitsBytes_calls (ad : Option Addr) (l : List Nat) (c : Nat) (p s : Int) (v : Int) (w : World) (hB : Bytes w ad c l) (hv0 : (Lit.int .u64 v).wf = true) :
    Calls Try.prog 3 #[.slice ad l.length c, .int .i64 p, .int .i64 s, .int .u64 v] w (RetB w (.bool true)) := by
  obtain ⟨v, rfl, hv⟩ := wf_u64 hv0
  rcases checkN_cases (l.take 200).length p s with ⟨e, he, he0⟩ | ⟨h0, p', s', rfl, rfl, hps, hs1, hs8⟩
  · exact bitsBytes_fail ad l c p s v w hB e he he0
  · exact bitsBytes_ok ad l c p' s' v w hB hv h0 hps hs1 hs8
end Go.Proofs.Ytajilhckhdohnaa
