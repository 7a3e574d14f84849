/- The statement NestedGrants: its walk. -/
import Derived.Test.YtlbehhbicmmdoaaNestTold
import Derived.Test.YtlbehhbicmmdoaaNestSmall
import Derived.Test.YtlbehhbicmmdoaaNestAll
namespace Go.Proofs.Ytlbehhbicmmdoaa
set_option linter.unusedVariables false
set_option linter.unusedSimpArgs false
open Go.RowKit

set_option maxHeartbeats 16000000 in
set_option maxRecDepth 100000 in
theorem nestedGrants_walk (ad : Option Addr) (l : List Ed) (cap : Nat) (on : Bool) (vi : Int) (hv0 : (Lit.int .u64 vi).wf = true) (w : World) (hN : l.length ≤ maxLen) (hE : Edits w ad l) :
    Calls Try.prog 10 #[.slice ad l.length cap, .bool on, .int .u64 vi] w (RetB w (.bool true)) := by
  obtain ⟨va, rfl, hva⟩ := wf_u64 hv0
  have hw := world14_calls w ad l cap hN hE
  have hm17 := u64_mask17 va
  obtain ⟨A, hA⟩ : ∃ A, va % 131072 = A := ⟨_, rfl⟩
  rw [hA] at hm17
  have HA := Lib.hid (show A < 131072 by omega)
  clear hv0 hN hE hA hva
  go_enter Try.func10, Try.ntmps10
  go_wp2_with fail
  (with_reducible refine hw.mono ?_)
  rintro e x1 ⟨p, mb, wd, rfl, hS, -⟩
  have HS := Lib.hid (memS_of hS)
  clear hw hS
  go_upto_region 6 with (fail)
  have hO := old_alloc (old_refl x1) (.cells #[.int .u64 4096, .bool on, .int .u64 0] 71)
  have hvb := new_block x1 (.cells #[.int .u64 4096, .bool on, .int .u64 0] 71)
  generalize x1.alloc (.cells #[.int .u64 4096, .bool on, .int .u64 0] 71) = X2 at *
  obtain ⟨vb, hvbe⟩ : ∃ vb, vb = x1.heap.size := ⟨_, rfl⟩
  rw [← hvbe] at hvb ⊢
  have hm2 : MemS w p wd (100 + 100 * 1) (fun b => b = vb) X2 := memS_le (memS_new HS.out hO (fun b hb => .inr (by omega))) (by decide)
  have HM := Lib.hid (And.intro hm2 hvb)
  clear hO hvb hvbe hm2 hm17
  go_wp2
  refine wp_loopF [false, false, false, false, false, false, true, false, false, false, false, true, true, true, true, true, true, true, true, true, false, false, false, false, false, false, false, false, false, false, false, true, true, true, true, true, true, true, true, true, true, true, true, true, true, true, true, true, true, true, true, true, true, true, true, true, true, true, true, true, true, true, true, true, true, true, true, true, true, true, true, true, true, true, true, true, true, true, true, true, true, true, true, true, true, true, true, true, true, true, true, true] (fun f x => ∃ k : Nat, 1 ≤ k ∧ k ≤ 4 ∧ f 11 = .int .i64 (k : Nat) ∧ MemS w p wd (100 + 100 * k) (fun b => b = vb) x ∧ x.heap[vb]? = some (.cells #[.int .u64 4096, .bool on, .int .u64 0] 71)) (fun f => 4 - (intOf (f 11)).toNat) ?start1 ?round1
  case start1 => exact ⟨1, by omega, by omega, rfl, by first | exact HM.out | exact ⟨memS_old HM.out.1 (old_drew (old_refl _)), HM.out.2⟩⟩
  case round1 =>
    intro f1 wr hrel J1 K1 hJ1 hM1
    dsimp only [mergeA, mergeL, Nat.reduceAdd]
    obtain ⟨k, hk1, hk4, h11, hm, hvb⟩ := hrel
    rw [h11]
    have H11 := Lib.hid h11
    have HMr := Lib.hid (And.intro hm hvb)
    clear h11 hm hvb
    by_cases hk : k = 4
    · subst hk
      clear hk1 hk4 H11
      have ht := told14_calls wr
      go_wp2_with fail
      (with_reducible refine ht.mono ?_)
      rintro e y3 ⟨rfl, hO3⟩
      have HO3 := Lib.hid hO3
      clear ht hO3
      go_wp2
      go_ret
      exact ⟨rfl, old_then (memS_word HMr.out.1) HO3.out⟩
    · have e1 : (k : Int) < 4 := by omega
      have HK := Lib.hid (And.intro hk1 (show k < 4 by omega))
      obtain ⟨kv, -, -⟩ := of_block HMr.out.2
      have hc : Calls Try.prog 30 #[.pointer (some ⟨p, 0, none⟩), .agg #[.int .u64 4096, .bool on, .int .u64 0], .int .u64 (A : Nat), .int .i64 (k : Nat)] wr (RetW w p wd (100 + 100 * k + 24) (fun b => b = vb) wr (nestN (rawM 40 wd) (okM 40) 4096 on 0 A (k : Nat))) := memS_walk HMr.out.1 (by have := HK.out; omega) 4096 0 A on (by decide) (by decide) (by have := HA.out; omega) (k : Nat)
      have hgr := fun j hj h => nest_grant (raw := rawM 40 wd) (ok := okM 40) (two := 4096) on A (by have := HA.out; omega) (k : Nat) j hj h
      obtain ⟨q, hq⟩ : ∃ q, nestN (rawM 40 wd) (okM 40) 4096 on 0 A (k : Nat) = q := ⟨_, rfl⟩
      rw [hq] at hc hgr
      obtain ⟨⟨ofr, oip, o1, o2, o3, o4, o5, o6⟩, ⟨fst, fk, flv, fad, fsto⟩, nq⟩ := q
      have HGR := Lib.hid hgr
      clear hq hgr hk hk1 hk4
      go_wp2_with fail
      (with_reducible refine hc.mono ?_)
      rintro e y1 ⟨rfl, hm, hkp, -⟩
      have HM1 := Lib.hid (And.intro hm (hkp vb _ rfl HMr.out.2))
      clear hc hm hkp kv
      dsimp only [O8.cells, F5.cells]
      obtain ⟨Y1, hY1, hOY1, hob1, hfb1, hsY1, i1, i2⟩ := pair_new y1 #[Value.int .i64 0, .int .u64 0, .bool false, .bool false, .bool false, .bool false, .bool false, .bool false] #[Value.int .i64 0, .int .i64 0, .int .i64 0, .int .u64 0, .bool false] #[Value.int .i64 (ofr : Nat), .int .u64 (oip : Nat), .bool o1, .bool o2, .bool o3, .bool o4, .bool o5, .bool o6] #[Value.int .i64 fst, .int .i64 fk, .int .i64 flv, .int .u64 (fad : Nat), .bool fsto] 65 67
      have HY1 := Lib.hid (And.intro hOY1 (And.intro hob1 (And.intro hfb1 hsY1)))
      have HEY1 := Lib.hid hY1
      have I1Y1 := Lib.hid i1
      have I2Y1 := Lib.hid i2
      clear hY1 hOY1 hob1 hfb1 hsY1 i1 i2
      go_upto_region 10 with (first | (refine wpList_store_whole rfl 65 _ _ rfl y1.heap.size [Value.int .i64 (ofr : Nat), .int .u64 (oip : Nat), .bool o1, .bool o2, .bool o3, .bool o4, .bool o5, .bool o6] rfl rfl 65 _ I1Y1.out (by kernel_rfl) rfl (by intro v hv; simp only [List.mem_cons, List.not_mem_nil, or_false] at hv; rcases hv with rfl | rfl | rfl | rfl | rfl | rfl | rfl | rfl <;> rfl) ?_) | (refine wpList_store_whole rfl 67 _ _ rfl (y1.heap.size + 1) [Value.int .i64 fst, .int .i64 fk, .int .i64 flv, .int .u64 (fad : Nat), .bool fsto] rfl rfl 67 _ I2Y1.out (by kernel_rfl) rfl (by intro v hv; simp only [List.mem_cons, List.not_mem_nil, or_false] at hv; rcases hv with rfl | rfl | rfl | rfl | rfl <;> rfl) ?_))
      rw [← HEY1.out]
      clear HEY1 I1Y1 I2Y1
      obtain ⟨fb1, hfb1⟩ : ∃ fb1, fb1 = y1.heap.size + 1 := ⟨_, rfl⟩
      obtain ⟨ob1, hob1⟩ : ∃ ob1, ob1 = y1.heap.size := ⟨_, rfl⟩
      rw [← hfb1, ← hob1]
      rw [← hfb1, ← hob1] at HY1
      have HBY1 := Lib.hid (And.intro hob1 hfb1)
      clear hfb1 hob1
      obtain ⟨kb, -, -⟩ := of_block HY1.out.2.2.1
      have hvY := keep_old HY1.out.1 HM1.out.2
      have hmY : MemS w p wd (100 + 100 * k + 24) (fun b => b = vb ∨ b = ob1) Y1 := memS_new HM1.out.1 HY1.out.1 (fun b hb => hb.imp id (fun e => by have := HBY1.out; omega))
      have HMY := Lib.hid (And.intro hmY (And.intro hvY HY1.out.2.1))
      clear hvY hmY
      by_cases hf0 : fst = 0
      case neg =>
        have hfb : (fst != 0) = true := by simp [hf0]
        clear hf0
        go_wp2
        refine Met.intro (hJ1 _ _ (by kernel_rfl) ?_ ?_)
        · exact ⟨k + 1, by omega, by have := HK.out; omega, by show Value.int .i64 ((k : Int) + 1) = _; simp, by first | exact memS_le (memS_less HMY.out.1 (fun b hb => .inl hb)) (by omega) | exact memS_old (memS_le (memS_less HMY.out.1 (fun b hb => .inl hb)) (by omega)) (old_drew (old_refl _)), HMY.out.2.1⟩
        · rw [H11.out]
          show 4 - (intOf (Value.int .i64 ((k : Int) + 1))).toNat < 4 - (intOf (Value.int .i64 (k : Int))).toNat
          have := HK.out
          simp [intOf]
          omega
      case pos =>
      have hfb : (fst != 0) = false := by simp [hf0]
      have HG2 := Lib.hid (fun j hj => HGR.out j hj hf0)
      clear hf0 HGR
      go_wp2
      refine wp_loopF [false, false, false, false, false, false, true, false, false, false, false, false, false, false, false, true, true, true, true, true, false, false, false, false, false, false, false, false, false, false, false, false, false, false, false, false, false, false, false, false, false, false, false, false, false, false, false, true, true, true, true, true, true, true, true, true, true, true, true, true, true, true, true, true, true, true, true, true, true, true, true, true, true, true, true, true, true, true, true, true, true, true, true, true, true, true, true, true, true, true, true, true] (fun f x => ∃ j : Nat, 1 ≤ j ∧ j ≤ 4 ∧ f 15 = .int .i64 (j : Nat) ∧ MemS w p wd (100 + 100 * k + 24 * j) (fun b => b = vb ∨ b = ob1) x ∧ x.heap[vb]? = some (.cells #[.int .u64 4096, .bool on, .int .u64 0] 71) ∧ x.heap[ob1]? = some (.cells #[Value.int .i64 (ofr : Nat), .int .u64 (oip : Nat), .bool o1, .bool o2, .bool o3, .bool o4, .bool o5, .bool o6] 65)) (fun f => 4 - (intOf (f 15)).toNat) ?start2 ?round2
      case start2 => exact ⟨1, by omega, by omega, rfl, by first | exact HMY.out | exact ⟨memS_old HMY.out.1 (old_drew (old_refl _)), HMY.out.2⟩⟩
      case round2 =>
        intro f2 wq hrel J2 K2 hJ2 hM2
        dsimp only [mergeA, mergeL, Nat.reduceAdd]
        obtain ⟨j, hj1, hj4, h15, hm, hvb, hob⟩ := hrel
        rw [h15]
        have H15 := Lib.hid h15
        have HMq := Lib.hid (And.intro hm (And.intro hvb hob))
        clear h15 hm hvb hob kb hfb
        by_cases hj : j = 4
        · subst hj
          clear hj1 hj4 H15
          go_wp2
          refine Met.intro (hJ1 _ _ (by kernel_rfl) ?_ ?_)
          · exact ⟨k + 1, by omega, by have := HK.out; omega, by show Value.int .i64 ((k : Int) + 1) = _; simp, by first | exact memS_le (memS_less HMq.out.1 (fun b hb => .inl hb)) (by omega) | exact memS_old (memS_le (memS_less HMq.out.1 (fun b hb => .inl hb)) (by omega)) (old_drew (old_refl _)), HMq.out.2.1⟩
          · rw [H11.out]
            show 4 - (intOf (Value.int .i64 ((k : Int) + 1))).toNat < 4 - (intOf (Value.int .i64 (k : Int))).toNat
            have := HK.out
            simp [intOf]
            omega
        · have e2 : (j : Int) < 4 := by omega
          have HJ := Lib.hid (And.intro hj1 (show j < 4 by omega))
          obtain ⟨kv, -, -⟩ := of_block HMq.out.2.1
          have hc : Calls Try.prog 30 #[.pointer (some ⟨p, 0, none⟩), .agg #[.int .u64 4096, .bool on, .int .u64 0], .int .u64 (A : Nat), .int .i64 (j : Nat)] wq (RetW w p wd (100 + 100 * k + 24 * j + 24) (fun b => b = vb ∨ b = ob1) wq (nestN (rawM 40 wd) (okM 40) 4096 on 0 A (j : Nat))) := memS_walk HMq.out.1 (by have := HK.out; have := HJ.out; omega) 4096 0 A on (by decide) (by decide) (by have := HA.out; omega) (j : Nat)
          have hg := HG2.out (j : Nat) (by have := HJ.out; omega)
          obtain ⟨q, hq⟩ : ∃ q, nestN (rawM 40 wd) (okM 40) 4096 on 0 A (j : Nat) = q := ⟨_, rfl⟩
          rw [hq] at hc hg
          obtain ⟨⟨pfr, pip, p1, p2, p3, p4, p5, p6⟩, ⟨gst, gk, glv, gad, gsto⟩, nj⟩ := q
          obtain ⟨m1, hm1⟩ : ∃ m1, allowsB o1 o2 o3 (j : Nat) = m1 := ⟨_, rfl⟩
          obtain ⟨m2, hm2⟩ : ∃ m2, allowsB o4 o5 o6 (j : Nat) = m2 := ⟨_, rfl⟩
          dsimp only at hg
          rw [hm1, hm2] at hg
          have ha1 := fun y => allows14_calls o1 o2 o3 (j : Nat) y
          have ha2 := fun y => allows14_calls o4 o5 o6 (j : Nat) y
          rw [hm1] at ha1
          rw [hm2] at ha2
          have HGG := Lib.hid hg
          have HAL := Lib.hid (And.intro ha1 ha2)
          clear hq hg hj hj1 hj4 hm1 hm2 ha1 ha2
          go_wp2_with fail
          (with_reducible refine hc.mono ?_)
          rintro e y2 ⟨rfl, hm, hkp, -⟩
          have HM2 := Lib.hid (And.intro hm (And.intro (hkp vb _ (.inl rfl) HMq.out.2.1) (hkp ob1 _ (.inr rfl) HMq.out.2.2)))
          clear hc hm hkp kv
          dsimp only [O8.cells, F5.cells]
          obtain ⟨Y2, hY2, hOY2, hob2, hfb2, hsY2, i1, i2⟩ := pair_new y2 #[Value.int .i64 0, .int .u64 0, .bool false, .bool false, .bool false, .bool false, .bool false, .bool false] #[Value.int .i64 0, .int .i64 0, .int .i64 0, .int .u64 0, .bool false] #[Value.int .i64 (pfr : Nat), .int .u64 (pip : Nat), .bool p1, .bool p2, .bool p3, .bool p4, .bool p5, .bool p6] #[Value.int .i64 gst, .int .i64 gk, .int .i64 glv, .int .u64 (gad : Nat), .bool gsto] 65 67
          have HY2 := Lib.hid (And.intro hOY2 (And.intro hob2 (And.intro hfb2 hsY2)))
          have HEY2 := Lib.hid hY2
          have I1Y2 := Lib.hid i1
          have I2Y2 := Lib.hid i2
          clear hY2 hOY2 hob2 hfb2 hsY2 i1 i2
          go_upto_region 15 with (first | (refine wpList_store_whole rfl 65 _ _ rfl y2.heap.size [Value.int .i64 (pfr : Nat), .int .u64 (pip : Nat), .bool p1, .bool p2, .bool p3, .bool p4, .bool p5, .bool p6] rfl rfl 65 _ I1Y2.out (by kernel_rfl) rfl (by intro v hv; simp only [List.mem_cons, List.not_mem_nil, or_false] at hv; rcases hv with rfl | rfl | rfl | rfl | rfl | rfl | rfl | rfl <;> rfl) ?_) | (refine wpList_store_whole rfl 67 _ _ rfl (y2.heap.size + 1) [Value.int .i64 gst, .int .i64 gk, .int .i64 glv, .int .u64 (gad : Nat), .bool gsto] rfl rfl 67 _ I2Y2.out (by kernel_rfl) rfl (by intro v hv; simp only [List.mem_cons, List.not_mem_nil, or_false] at hv; rcases hv with rfl | rfl | rfl | rfl | rfl <;> rfl) ?_))
          rw [← HEY2.out]
          clear HEY2 I1Y2 I2Y2
          obtain ⟨fb2, hfb2⟩ : ∃ fb2, fb2 = y2.heap.size + 1 := ⟨_, rfl⟩
          obtain ⟨ob2, hob2⟩ : ∃ ob2, ob2 = y2.heap.size := ⟨_, rfl⟩
          rw [← hfb2, ← hob2]
          rw [← hfb2, ← hob2] at HY2
          have HBY2 := Lib.hid (And.intro hob2 hfb2)
          clear hfb2 hob2
          have HMZ := Lib.hid (And.intro (memS_old HM2.out.1 HY2.out.1) (And.intro (keep_old HY2.out.1 HM2.out.2.1) (And.intro (keep_old HY2.out.1 HM2.out.2.2) (And.intro HY2.out.2.1 HY2.out.2.2.1))))
          obtain ⟨ko, -, -⟩ := of_block HMZ.out.2.2.1
          go_wp2_with fail
          (with_reducible refine (HAL.out.1 _).mono ?_)
          rintro e y3 ⟨rfl, hO3⟩
          have HMW := Lib.hid (And.intro (memS_old HMZ.out.1 hO3) (And.intro (keep_old hO3 HMZ.out.2.1) (And.intro (keep_old hO3 HMZ.out.2.2.1) (And.intro (keep_old hO3 HMZ.out.2.2.2.1) (keep_old hO3 HMZ.out.2.2.2.2)))))
          clear hO3 ko
          cases m1 with
          | false =>
            have hgn := HGG.out.2 rfl
            replace hgn : gk = 2 ∧ gst ≠ 0 := hgn
            obtain ⟨rfl, hgs⟩ := hgn
            have hgb : (gst == 0) = false := by simp [hgs]
            clear hgs HGG
            obtain ⟨ko, -, -⟩ := of_block HMW.out.2.2.1
            obtain ⟨kp, -, -⟩ := of_block HMW.out.2.2.2.1
            obtain ⟨kg, -, -⟩ := of_block HMW.out.2.2.2.2
            go_wp2
            refine Met.intro (hJ2 _ _ (by kernel_rfl) ?_ ?_)
            · exact ⟨j + 1, by omega, by have := HJ.out; omega, by show Value.int .i64 ((j : Int) + 1) = _; simp, by first | exact memS_le HMW.out.1 (by omega) | exact memS_old (memS_le HMW.out.1 (by omega)) (old_drew (old_refl _)), HMW.out.2.1, HMW.out.2.2.1⟩
            · rw [H15.out]
              show 4 - (intOf (Value.int .i64 ((j : Int) + 1))).toNat < 4 - (intOf (Value.int .i64 (j : Int))).toNat
              have := HJ.out
              simp [intOf]
              omega
          | true =>
            obtain ⟨ko, -, -⟩ := of_block HMW.out.2.2.1
            go_wp2_with fail
            (with_reducible refine (HAL.out.2 _).mono ?_)
            rintro e y4 ⟨rfl, hO4⟩
            have HMV := Lib.hid (And.intro (memS_old HMW.out.1 hO4) (And.intro (keep_old hO4 HMW.out.2.1) (And.intro (keep_old hO4 HMW.out.2.2.1) (And.intro (keep_old hO4 HMW.out.2.2.2.1) (keep_old hO4 HMW.out.2.2.2.2)))))
            clear hO4 ko
            obtain ⟨ko, -, -⟩ := of_block HMV.out.2.2.1
            obtain ⟨kp, -, -⟩ := of_block HMV.out.2.2.2.1
            obtain ⟨kg, -, -⟩ := of_block HMV.out.2.2.2.2
            cases m2 with
            | false =>
              have hgn := HGG.out.2 rfl
              replace hgn : gk = 2 ∧ gst ≠ 0 := hgn
              obtain ⟨rfl, hgs⟩ := hgn
              have hgb : (gst == 0) = false := by simp [hgs]
              clear hgs HGG
              go_wp2
              refine Met.intro (hJ2 _ _ (by kernel_rfl) ?_ ?_)
              · exact ⟨j + 1, by omega, by have := HJ.out; omega, by show Value.int .i64 ((j : Int) + 1) = _; simp, by first | exact memS_le HMV.out.1 (by omega) | exact memS_old (memS_le HMV.out.1 (by omega)) (old_drew (old_refl _)), HMV.out.2.1, HMV.out.2.2.1⟩
              · rw [H15.out]
                show 4 - (intOf (Value.int .i64 ((j : Int) + 1))).toNat < 4 - (intOf (Value.int .i64 (j : Int))).toNat
                have := HJ.out
                simp [intOf]
                omega
            | true =>
              have hgy := HGG.out.1 rfl
              obtain ⟨g1, g2⟩ := hgy
              obtain ⟨rfl, rfl, rfl, rfl, rfl, rfl, rfl, rfl⟩ : pfr = ofr ∧ pip = oip ∧ p1 = o1 ∧ p2 = o2 ∧ p3 = o3 ∧ p4 = o4 ∧ p5 = o5 ∧ p6 = o6 := by injection g1 with a1 a2 a3 a4 a5 a6 a7 a8; exact ⟨a1, a2, a3, a4, a5, a6, a7, a8⟩
              obtain ⟨rfl, rfl, rfl, rfl, rfl⟩ : gst = 0 ∧ gk = 0 ∧ glv = 0 ∧ gad = 0 ∧ gsto = false := by unfold F0 at g2; injection g2 with a1 a2 a3 a4 a5; exact ⟨a1, a2, a3, a4, a5⟩
              have he0 : ∀ y, (Op.equalIn 10000 65 (.agg #[Value.int .i64 (pfr : Nat), .int .u64 (pip : Nat), .bool p1, .bool p2, .bool p3, .bool p4, .bool p5, .bool p6]) (.agg #[Value.int .i64 (pfr : Nat), .int .u64 (pip : Nat), .bool p1, .bool p2, .bool p3, .bool p4, .bool p5, .bool p6])).run Try.prog y = .ok true y := fun y => eq_out_self ⟨pfr, pip, p1, p2, p3, p4, p5, p6⟩ y
              clear g1 g2 HGG
              go_wp2
              refine Met.intro (hJ2 _ _ (by kernel_rfl) ?_ ?_)
              · exact ⟨j + 1, by omega, by have := HJ.out; omega, by show Value.int .i64 ((j : Int) + 1) = _; simp, by first | exact memS_le HMV.out.1 (by omega) | exact memS_old (memS_le HMV.out.1 (by omega)) (old_drew (old_refl _)), HMV.out.2.1, HMV.out.2.2.1⟩
              · rw [H15.out]
                show 4 - (intOf (Value.int .i64 ((j : Int) + 1))).toNat < 4 - (intOf (Value.int .i64 (j : Int))).toNat
                have := HJ.out
                simp [intOf]
                omega
end Go.Proofs.Ytlbehhbicmmdoaa

