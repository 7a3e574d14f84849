/- The statement NestedOff: its walk. -/
import Derived.Test.YtlbehhbicmmdoaaNestTold
import Derived.Test.YtlbehhbicmmdoaaNestSmall
namespace Go.Proofs.Ytlbehhbicmmdoaa
set_option linter.unusedVariables false
set_option linter.unusedSimpArgs false
open Go.RowKit

theorem nest_off {raw : Nat → Nat} {ok : Nat → Bool} {two root va : Nat} {access : Int} (h : va < 281474976710656) : nestN raw ok two false root va access = secondN raw ok two va access := by
  unfold nestN
  exact (if_neg (by omega)).trans (if_pos rfl)
set_option maxHeartbeats 16000000 in
set_option maxRecDepth 100000 in
theorem nestedOff_walk (ad : Option Addr) (l : List Ed) (cap : Nat) (vi : Int) (hv0 : (Lit.int .u64 vi).wf = true) (ac : Int) (_ : (Lit.int .i64 ac).wf = true) (w : World) (hN : l.length ≤ maxLen) (hE : Edits w ad l) :
    Calls Try.prog 9 #[.slice ad l.length cap, .int .u64 vi, .int .i64 ac] w (RetB w (.bool true)) := by
  obtain ⟨va, rfl, hva⟩ := wf_u64 hv0
  have hw := world14_calls w ad l cap hN hE
  have hm48 := u64_mask48 va
  have hm17 := u64_mask17 va
  obtain ⟨A1, hA1⟩ : ∃ A1, va % 281474976710656 = A1 := ⟨_, rfl⟩
  obtain ⟨A2, hA2⟩ : ∃ A2, va % 131072 = A2 := ⟨_, rfl⟩
  obtain ⟨M, r, k1, k2, k3, k4, k6, k7, k8⟩ := access_of ac
  obtain ⟨b8, hb8⟩ : ∃ b8, bits .and .i64 ac 8 = b8 := ⟨_, rfl⟩
  rw [hA1] at hm48
  rw [hA2] at hm17
  have HA := Lib.hid (And.intro (show A1 < 281474976710656 by omega) (And.intro (show A2 < 281474976710656 by omega) (And.intro k6 hva)))
  have HK := Lib.hid (And.intro k1 (And.intro k3 (And.intro k4 k6)))
  clear hv0 hN hE hA1 hA2 k1 k2 k3 k4 k6 hva
  go_enter Try.func9, Try.ntmps9
  go_wp2_with fail
  (with_reducible refine hw.mono ?_)
  rintro e x1 ⟨p, mb, wd, rfl, hS, -⟩
  have HS := Lib.hid (memS_of hS)
  clear hw hS
  go_upto_if 28 with (fail)
  refine wp_cutF [false, false, false, false, false, false, false, false, false, true, false, false, false, false, false, false, false, false, false, false, false, false, false, false, false, false, false, false, true, true, true] (fun f x => ∃ A : Nat, A < 281474976710656 ∧ f 9 = .int .u64 (A : Nat) ∧ Old x1 x) ?rest1 ?first1
  case first1 =>
    intro J1 K1 hJ1 hM1
    by_cases hb : b8 = 0
    · have d : (b8 == 0) = true := by simp [hb]
      rw [d]
      clear hb
      go_wp2
      exact Met.intro (hJ1 _ _ (by kernel_rfl) ⟨A2, HA.out.2.1, rfl, by first | exact old_refl _ | exact old_drew (old_refl _)⟩)
    · have d : (b8 == 0) = false := by simp [hb]
      rw [d]
      clear hb
      go_wp2
      exact Met.intro (hJ1 _ _ (by kernel_rfl) ⟨A1, HA.out.1, rfl, by first | exact old_refl _ | exact old_drew (old_refl _)⟩)
  case rest1 =>
    intro f x2 hcut
    dsimp only [mergeA, mergeL, Nat.reduceAdd]
    obtain ⟨A, hA, h9, hO⟩ := hcut
    rw [h9]
    have hm := memS_old HS.out hO
    have hq1 : nestN (rawM 40 wd) (okM 40) 4096 false va A (1 + r) = secondN (rawM 40 wd) (okM 40) 4096 A (1 + r) := nest_off hA
    have hsk := second_ok (raw := rawM 40 wd) (ok := okM 40) 4096 A (1 + r)
    obtain ⟨q, hq⟩ : ∃ q, secondN (rawM 40 wd) (okM 40) 4096 A (1 + r) = q := ⟨_, rfl⟩
    have hc : Calls Try.prog 30 #[.pointer (some ⟨p, 0, none⟩), .agg #[.int .u64 4096, .bool false, .int .u64 (va : Nat)], .int .u64 (A : Nat), .int .i64 (1 + r)] x2 (RetW w p wd 124 (fun _ => False) x2 (nestN (rawM 40 wd) (okM 40) 4096 false va A (1 + r))) := memS_walk hm (by decide) 4096 va A false (by decide) HA.out.2.2.2 (by omega) (1 + r)
    rw [hq1, hq] at hc
    rw [hq] at hsk
    obtain ⟨⟨ofr, oip, o1, o2, o3, o4, o5, o6⟩, ⟨fst, fk, flv, fad, fsto⟩, nq⟩ := q
    have hn4 : nq ≤ 4 := hsk.n4
    have n4 : (nq : Int) ≤ 4 := by omega
    have he0 : ∀ y, (Op.equalIn 10000 65 (.agg #[Value.int .i64 (ofr : Nat), .int .u64 (oip : Nat), .bool o1, .bool o2, .bool o3, .bool o4, .bool o5, .bool o6]) (.agg #[Value.int .i64 (ofr : Nat), .int .u64 (oip : Nat), .bool o1, .bool o2, .bool o3, .bool o4, .bool o5, .bool o6])).run Try.prog y = .ok true y := fun y => eq_out_self ⟨ofr, oip, o1, o2, o3, o4, o5, o6⟩ y
    have he1 : ∀ y, (Op.equalIn 10000 67 (.agg #[Value.int .i64 fst, .int .i64 fk, .int .i64 flv, .int .u64 (fad : Nat), .bool fsto]) (.agg #[Value.int .i64 fst, .int .i64 fk, .int .i64 flv, .int .u64 (fad : Nat), .bool fsto])).run Try.prog y = .ok true y := fun y => eq_fau_self ⟨fst, fk, flv, fad, fsto⟩ y
    have HQ := Lib.hid (And.intro hq hA)
    obtain ⟨k1, k3, k4, -⟩ := HK.out
    clear hq hq1 hsk hn4 h9 hO hm hA hm48 hm17 hb8
    go_wp2_with fail
    (with_reducible refine hc.mono ?_)
    rintro e y1 ⟨rfl, hm, -, -⟩
    have HM1 := Lib.hid hm
    clear hc hm
    dsimp only [O8.cells, F5.cells]
    obtain ⟨Y1, hY1, hOY1, hob1, hfb1, hsY1, i1, i2⟩ := pair_new y1 #[Value.int .i64 0, .int .u64 0, .bool false, .bool false, .bool false, .bool false, .bool false, .bool false] #[Value.int .i64 0, .int .i64 0, .int .i64 0, .int .u64 0, .bool false] #[Value.int .i64 (ofr : Nat), .int .u64 (oip : Nat), .bool o1, .bool o2, .bool o3, .bool o4, .bool o5, .bool o6] #[Value.int .i64 fst, .int .i64 fk, .int .i64 flv, .int .u64 (fad : Nat), .bool fsto] 65 67
    have HY1 := Lib.hid (And.intro hOY1 (And.intro hob1 (And.intro hfb1 hsY1)))
    have HEY1 := Lib.hid hY1
    have I1Y1 := Lib.hid i1
    have I2Y1 := Lib.hid i2
    clear hY1 hOY1 hob1 hfb1 hsY1 i1 i2
    go_upto_region 9 with (first | (refine wpList_store_whole rfl 65 _ _ rfl y1.heap.size [Value.int .i64 (ofr : Nat), .int .u64 (oip : Nat), .bool o1, .bool o2, .bool o3, .bool o4, .bool o5, .bool o6] rfl rfl 65 _ I1Y1.out (by kernel_rfl) rfl (by intro v hv; simp only [List.mem_cons, List.not_mem_nil, or_false] at hv; rcases hv with rfl | rfl | rfl | rfl | rfl | rfl | rfl | rfl <;> rfl) ?_) | (refine wpList_store_whole rfl 67 _ _ rfl (y1.heap.size + 1) [Value.int .i64 fst, .int .i64 fk, .int .i64 flv, .int .u64 (fad : Nat), .bool fsto] rfl rfl 67 _ I2Y1.out (by kernel_rfl) rfl (by intro v hv; simp only [List.mem_cons, List.not_mem_nil, or_false] at hv; rcases hv with rfl | rfl | rfl | rfl | rfl <;> rfl) ?_))
    rw [← HEY1.out]
    clear HEY1 I1Y1 I2Y1
    obtain ⟨fb1, hfb1⟩ : ∃ fb1, fb1 = y1.heap.size + 1 := ⟨_, rfl⟩
    obtain ⟨ob1, hob1⟩ : ∃ ob1, ob1 = y1.heap.size := ⟨_, rfl⟩
    rw [← hfb1, ← hob1]
    rw [← hfb1, ← hob1] at HY1
    have HBY1 := Lib.hid (And.intro hob1 hfb1)
    clear hfb1 hob1
    have hm1 : MemS w p wd 124 (fun b => b = ob1 ∨ b = fb1) Y1 := memS_new HM1.out HY1.out.1 (fun b hb => .inr (by have := HBY1.out; omega))
    have hc : Calls Try.prog 33 #[.pointer (some ⟨p, 0, none⟩), .int .u64 4096, .int .u64 (A : Nat), .int .i64 (1 + r)] Y1 (RetW w p wd 128 (fun b => b = ob1 ∨ b = fb1) Y1 (secondN (rawM 40 wd) (okM 40) 4096 A (1 + r))) := memS_second hm1 (by decide) 4096 A (by decide) (by have := HQ.out.2; omega) (1 + r)
    rw [HQ.out.1] at hc
    clear hm1
    go_wp2_with fail
    (with_reducible refine hc.mono ?_)
    rintro e y2 ⟨rfl, hm, hk, hsz⟩
    have HM2 := Lib.hid (And.intro hm (And.intro (hk ob1 _ (.inl rfl) HY1.out.2.1) (hk fb1 _ (.inr rfl) HY1.out.2.2.1)))
    clear hc hm hk hsz
    dsimp only [O8.cells, F5.cells]
    obtain ⟨Y2, hY2, hOY2, hob2, hfb2, hsY2, i1, i2⟩ := pair_new y2 #[Value.int .i64 0, .int .u64 0, .bool false, .bool false, .bool false, .bool false, .bool false, .bool false] #[Value.int .i64 0, .int .i64 0, .int .i64 0, .int .u64 0, .bool false] #[Value.int .i64 (ofr : Nat), .int .u64 (oip : Nat), .bool o1, .bool o2, .bool o3, .bool o4, .bool o5, .bool o6] #[Value.int .i64 fst, .int .i64 fk, .int .i64 flv, .int .u64 (fad : Nat), .bool fsto] 65 67
    have HY2 := Lib.hid (And.intro hOY2 (And.intro hob2 (And.intro hfb2 hsY2)))
    have HEY2 := Lib.hid hY2
    have I1Y2 := Lib.hid i1
    have I2Y2 := Lib.hid i2
    clear hY2 hOY2 hob2 hfb2 hsY2 i1 i2
    go_upto_region 10 with (first | (refine wpList_store_whole rfl 65 _ _ rfl y2.heap.size [Value.int .i64 (ofr : Nat), .int .u64 (oip : Nat), .bool o1, .bool o2, .bool o3, .bool o4, .bool o5, .bool o6] rfl rfl 65 _ I1Y2.out (by kernel_rfl) rfl (by intro v hv; simp only [List.mem_cons, List.not_mem_nil, or_false] at hv; rcases hv with rfl | rfl | rfl | rfl | rfl | rfl | rfl | rfl <;> rfl) ?_) | (refine wpList_store_whole rfl 67 _ _ rfl (y2.heap.size + 1) [Value.int .i64 fst, .int .i64 fk, .int .i64 flv, .int .u64 (fad : Nat), .bool fsto] rfl rfl 67 _ I2Y2.out (by kernel_rfl) rfl (by intro v hv; simp only [List.mem_cons, List.not_mem_nil, or_false] at hv; rcases hv with rfl | rfl | rfl | rfl | rfl <;> rfl) ?_))
    rw [← HEY2.out]
    clear HEY2 I1Y2 I2Y2
    obtain ⟨fb2, hfb2⟩ : ∃ fb2, fb2 = y2.heap.size + 1 := ⟨_, rfl⟩
    obtain ⟨ob2, hob2⟩ : ∃ ob2, ob2 = y2.heap.size := ⟨_, rfl⟩
    rw [← hfb2, ← hob2]
    rw [← hfb2, ← hob2] at HY2
    have HBY2 := Lib.hid (And.intro hob2 hfb2)
    clear hfb2 hob2
    have a1 := keep_old HY2.out.1 HM2.out.2.1
    have a2 := keep_old HY2.out.1 HM2.out.2.2
    have HA2 := Lib.hid (And.intro a1 (And.intro a2 (And.intro HY2.out.2.1 HY2.out.2.2.1)))
    have HOW := Lib.hid (memS_word (memS_old HM2.out.1 HY2.out.1))
    clear a1 a2
    have ht := told14_calls Y2
    go_wp2_with fail
    (with_reducible refine ht.mono ?_)
    rintro e y3 ⟨rfl, hO3⟩
    obtain ⟨a1, a2, a3, a4⟩ := HA2.out
    obtain ⟨j1, -, -⟩ := of_block (keep_old hO3 a1)
    obtain ⟨j2, -, -⟩ := of_block (keep_old hO3 a2)
    obtain ⟨j3, -, -⟩ := of_block (keep_old hO3 a3)
    obtain ⟨j4, -, -⟩ := of_block (keep_old hO3 a4)
    have HO3 := Lib.hid hO3
    clear ht hO3 a1 a2 a3 a4
    go_wp2
    go_ret
    exact ⟨rfl, old_then HOW.out HO3.out⟩
end Go.Proofs.Ytlbehhbicmmdoaa

