/- The statement NestedBounds: its walk. -/
import Derived.Test.YtlbehhbicmmdoaaNestTold
import Derived.Test.YtlbehhbicmmdoaaNestSmall
import Derived.Test.YtlbehhbicmmdoaaNestAll
namespace Go.Proofs.Ytlbehhbicmmdoaa
set_option linter.unusedVariables false
set_option linter.unusedSimpArgs false
open Go.RowKit

set_option maxHeartbeats 16000000 in
set_option maxRecDepth 100000 in
theorem nestedBounds_walk (ad : Option Addr) (l : List Ed) (cap : Nat) (ri : Int) (hr0 : (Lit.int .u64 ri).wf = true) (vi : Int) (hv0 : (Lit.int .u64 vi).wf = true) (ac : Int) (_ : (Lit.int .i64 ac).wf = true) (w : World) (hN : l.length ≤ maxLen) (hE : Edits w ad l) :
    Calls Try.prog 8 #[.slice ad l.length cap, .int .u64 ri, .int .u64 vi, .int .i64 ac] w (RetB w (.bool true)) := by
  obtain ⟨va, rfl, hva⟩ := wf_u64 hv0
  have hw := world14_calls w ad l cap hN hE
  obtain ⟨A2, hA2⟩ : ∃ A2, va % 131072 = A2 := ⟨_, rfl⟩
  have hm17 : (va : Int) % 131072 = (A2 : Int) := by omega
  obtain ⟨M, r, k1, k2, k3, k4, k6, k7, k8⟩ := access_of ac
  obtain ⟨b4, hb4⟩ : ∃ b4, bits .and .i64 ac 4 = b4 := ⟨_, rfl⟩
  obtain ⟨R, hR, hRR⟩ := u64_and_some ri 126976
  have HA := Lib.hid (And.intro (show A2 < 18446744073709551616 by omega) (And.intro hva (And.intro k6 hR)))
  have HK := Lib.hid (And.intro k1 (And.intro k3 (And.intro k4 k6)))
  clear hv0 hr0 hN hE hA2 k2 k6 hva hR
  go_enter Try.func8, Try.ntmps8
  go_wp2_with fail
  (with_reducible refine hw.mono ?_)
  rintro e x1 ⟨p, mb, wd, rfl, hS, -⟩
  have HS := Lib.hid (memS_of hS)
  clear hw hS
  go_upto_if 30 with (fail)
  refine wp_cutF [false, false, false, false, false, false, false, false, false, false, false, false, true, false, false, false, false, false, false, false, false, false, false, false, false, false, false, false, false, false, true, true, true] (fun f x => ∃ A : Nat, A < 18446744073709551616 ∧ f 12 = .int .u64 (A : Nat) ∧ Old x1 x) ?rest1 ?first1
  case first1 =>
    intro J1 K1 hJ1 hM1
    by_cases hb : b4 = 0
    · have d : (b4 == 0) = true := by simp [hb]
      rw [d]
      clear hb
      go_wp2
      exact Met.intro (hJ1 _ _ (by kernel_rfl) ⟨A2, HA.out.1, rfl, by first | exact old_refl _ | exact old_drew (old_refl _)⟩)
    · have d : (b4 == 0) = false := by simp [hb]
      rw [d]
      clear hb
      go_wp2
      exact Met.intro (hJ1 _ _ (by kernel_rfl) ⟨va, HA.out.2.1, rfl, by first | exact old_refl _ | exact old_drew (old_refl _)⟩)
  case rest1 =>
    intro f x2 hcut
    dsimp only [mergeA, mergeL, Nat.reduceAdd]
    obtain ⟨A, hA, h9, hO⟩ := hcut
    rw [h9]
    have hm := memS_old HS.out hO
    have hc : Calls Try.prog 30 #[.pointer (some ⟨p, 0, none⟩), .agg #[.int .u64 4096, .bool true, .int .u64 (R : Nat)], .int .u64 (A : Nat), .int .i64 (1 + r)] x2 (RetW w p wd 124 (fun _ => False) x2 (nestN (rawM 40 wd) (okM 40) 4096 true R A (1 + r))) := memS_walk hm (by decide) 4096 R A true (by decide) HA.out.2.2.2 hA (1 + r)
    obtain ⟨q1, q2, q3, hq, g1, g2, g3, g4, g5, g6, g7, g8⟩ := nest_ok (raw := rawM 40 wd) (ok := okM 40) (two := 4096) true R A (1 + r)
    rw [hq] at hc
    obtain ⟨sto, hsto⟩ : ∃ sto, (1 + r == 2) = sto := ⟨_, rfl⟩
    have hsd : decide (1 + r = 2) = sto := by rw [← hsto]; rfl
    rw [hsd] at g5
    obtain ⟨ofr, oip, o1, o2, o3, o4, o5, o6⟩ := q1
    obtain ⟨fst, fk, flv, fad, fsto⟩ := q2
    have HG := Lib.hid (And.intro g1 (And.intro g2 (And.intro g3 (And.intro g4 (And.intro g5 (And.intro g6 (And.intro g7 g8)))))))
    have HST := Lib.hid hsto
    clear hq g1 g2 g3 g4 g5 g6 g7 g8 h9 hO hm hA hb4 hm17 hsd hsto
    go_wp2_with fail
    (with_reducible refine hc.mono ?_)
    rintro e y1 ⟨rfl, hm, -, -⟩
    have HM1 := Lib.hid hm
    clear hc hm
    dsimp only [O8.cells, F5.cells]
    obtain ⟨Y1, hY1, hOY1, hob1, hfb1, hsY1, i1, i2⟩ := pair_new y1 #[Value.int .i64 0, .int .u64 0, .bool false, .bool false, .bool false, .bool false, .bool false, .bool false] #[Value.int .i64 0, .int .i64 0, .int .i64 0, .int .u64 0, .bool false] #[Value.int .i64 (ofr : Nat), .int .u64 (oip : Nat), .bool o1, .bool o2, .bool o3, .bool o4, .bool o5, .bool o6] #[Value.int .i64 fst, .int .i64 fk, .int .i64 flv, .int .u64 (fad : Nat), .bool fsto] 65 67
    have HY1 := Lib.hid (And.intro hOY1 (And.intro hob1 (And.intro hfb1 hsY1)))
    have HEY1 := Lib.hid hY1
    have I1Y1 := Lib.hid i1
    have I2Y1 := Lib.hid i2
    clear hY1 hOY1 hob1 hfb1 hsY1 i1 i2
    go_upto_region 9 with (first | (refine wpList_store_whole rfl 65 _ _ rfl y1.heap.size [Value.int .i64 (ofr : Nat), .int .u64 (oip : Nat), .bool o1, .bool o2, .bool o3, .bool o4, .bool o5, .bool o6] rfl rfl 65 _ I1Y1.out (by kernel_rfl) rfl (by intro v hv; simp only [List.mem_cons, List.not_mem_nil, or_false] at hv; rcases hv with rfl | rfl | rfl | rfl | rfl | rfl | rfl | rfl <;> rfl) ?_) | (refine wpList_store_whole rfl 67 _ _ rfl (y1.heap.size + 1) [Value.int .i64 fst, .int .i64 fk, .int .i64 flv, .int .u64 (fad : Nat), .bool fsto] rfl rfl 67 _ I2Y1.out (by kernel_rfl) rfl (by intro v hv; simp only [List.mem_cons, List.not_mem_nil, or_false] at hv; rcases hv with rfl | rfl | rfl | rfl | rfl <;> rfl) ?_))
    rw [← HEY1.out]
    clear HEY1 I1Y1 I2Y1
    obtain ⟨fb1, hfb1⟩ : ∃ fb1, fb1 = y1.heap.size + 1 := ⟨_, rfl⟩
    obtain ⟨ob1, hob1⟩ : ∃ ob1, ob1 = y1.heap.size := ⟨_, rfl⟩
    rw [← hfb1, ← hob1]
    rw [← hfb1, ← hob1] at HY1
    have HBY1 := Lib.hid (And.intro hob1 hfb1)
    clear hfb1 hob1
    have HM2 := Lib.hid (memS_old HM1.out HY1.out.1)
    obtain ⟨ka, -, -⟩ := of_block HY1.out.2.1
    obtain ⟨kb, -, -⟩ := of_block HY1.out.2.2.1
    have n0 : (0 : Int) ≤ (q3 : Int) := by omega
    have n24 : (q3 : Int) ≤ 24 := by have := HG.out.1; omega
    clear k1 k3 k4 hRR
    have hall := fun a0 a1 a2 y => allows14_calls a0 a1 a2 (1 + r) y
    have HALL := Lib.hid hall
    clear hall
    by_cases hf0 : fst = 0
    · obtain ⟨g6a, g6b, g6c, g6d⟩ := HG.out.2.2.2.2.2.1 hf0
      obtain ⟨rfl, rfl, rfl, rfl, rfl⟩ : fst = 0 ∧ fk = 0 ∧ flv = 0 ∧ fad = 0 ∧ fsto = false := by unfold F0 at g6a; injection g6a with a1 a2 a3 a4 a5; exact ⟨a1, a2, a3, a4, a5⟩
      have hal1 := fun y => HALL.out o1 o2 o3 y
      have hal2 := fun y => HALL.out o4 o5 o6 y
      have e1 : allowsB o1 o2 o3 (1 + r) = true := by rw [g6b]; simp
      have e2 : allowsB o4 o5 o6 (1 + r) = true := g6c
      rw [e1] at hal1
      rw [e2] at hal2
      have hlt : decide ((281474976710656 : Int) ≤ (A : Int)) = false := decide_eq_false (by omega)
      have HL := Lib.hid (And.intro hal1 hal2)
      clear g6a g6b g6c g6d hf0 hal1 hal2 e1 e2
      go_wp2_with fail
      (with_reducible refine (HL.out.1 _).mono ?_)
      rintro e y2 ⟨rfl, hO2⟩
      have ha := keep_old hO2 HY1.out.2.1
      have hb := keep_old hO2 HY1.out.2.2.1
      have HB2 := Lib.hid (And.intro ha (And.intro hb hO2))
      clear ka kb hO2
      obtain ⟨ka, -, -⟩ := of_block ha
      obtain ⟨kb, -, -⟩ := of_block hb
      clear ha hb
      go_wp2_with fail
      (with_reducible refine (HL.out.2 _).mono ?_)
      rintro e y3 ⟨rfl, hO3⟩
      have hO := old_then HB2.out.2.2 hO3
      have HB3 := Lib.hid (And.intro (keep_old hO3 HB2.out.2.1) hO)
      clear ka kb hO3 hO
      go_wp2_with fail
      (with_reducible refine (told14_calls _).mono ?_)
      rintro e y4 ⟨rfl, hO4⟩
      obtain ⟨kb, -, -⟩ := of_block (keep_old hO4 HB3.out.1)
      have HO4 := Lib.hid hO4
      clear hO4
      go_wp2
      go_ret
      exact ⟨rfl, old_then (memS_word HM2.out) (old_then HB3.out.2 HO4.out)⟩
    · obtain ⟨g5a, g5b⟩ := HG.out.2.2.2.2.1 hf0
      replace g5b : fsto = sto := g5b
      obtain ⟨rfl, rfl, rfl, rfl, rfl, rfl, rfl, rfl⟩ : ofr = 0 ∧ oip = 0 ∧ o1 = false ∧ o2 = false ∧ o3 = false ∧ o4 = false ∧ o5 = false ∧ o6 = false := by unfold O0 at g5a; injection g5a with a1 a2 a3 a4 a5 a6 a7 a8; exact ⟨a1, a2, a3, a4, a5, a6, a7, a8⟩
      have hk0 : fk ≠ 0 := fun e => hf0 (HG.out.2.2.1.2 e)
      have hkb : (fk == 0) = false := by simp [hk0]
      have hz : ∀ y, (Op.equalIn 10000 65 (.agg #[Value.int .i64 0, .int .u64 0, .bool false, .bool false, .bool false, .bool false, .bool false, .bool false]) (.agg #[Value.int .i64 0, .int .u64 0, .bool false, .bool false, .bool false, .bool false, .bool false, .bool false])).run Try.prog y = .ok true y := fun y => eq_out_self O0 y
      have l1 : (-1 : Int) ≤ flv := HG.out.2.2.2.2.2.2.1
      have l2 : flv ≤ 3 := HG.out.2.2.2.2.2.2.2
      subst g5b
      have h12 := HG.out.2.1
      have had := HG.out.2.2.2.1
      rcases h12 with h | h | h
      · exact absurd h hf0
      · replace h : fst = 1 := h
        replace had : fad = A := had h
        subst h had
        clear hf0 g5a hk0
        have hst : (1 + r == 2) = fsto := HST.out
        go_wp2_with fail
        (with_reducible refine (told14_calls _).mono ?_)
        rintro e y4 ⟨rfl, hO4⟩
        clear ka kb
        obtain ⟨kb, -, -⟩ := of_block (keep_old hO4 HY1.out.2.2.1)
        have HO4 := Lib.hid hO4
        clear hO4
        go_wp2
        go_ret
        exact ⟨rfl, old_then (memS_word HM2.out) HO4.out⟩
      · replace h : fst = 2 := h
        subst h
        clear hf0 g5a hk0 had
        have hst : (1 + r == 2) = fsto := HST.out
        go_wp2_with fail
        (with_reducible refine (told14_calls _).mono ?_)
        rintro e y4 ⟨rfl, hO4⟩
        clear ka kb
        obtain ⟨kb, -, -⟩ := of_block (keep_old hO4 HY1.out.2.2.1)
        have HO4 := Lib.hid hO4
        clear hO4
        go_wp2
        go_ret
        exact ⟨rfl, old_then (memS_word HM2.out) HO4.out⟩
end Go.Proofs.Ytlbehhbicmmdoaa

