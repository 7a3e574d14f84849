/- Texts on the way to the statement NestedWalks, several in one file: each part says what it is. -/
import Derived.Test.YtlbehhbicmmdoaaKWE
import Derived.Test.YtlbehhbicmmdoaaKWH
import Derived.Test.YtlbehhbicmmdoaaKWK
import Derived.Test.YtlbehhbicmmdoaaKWL
namespace Go.Proofs.Ytlbehhbicmmdoaa
set_option linter.unusedVariables false
set_option linter.unusedSimpArgs false
open Go.RowKit
set_option maxRecDepth 100000 in
theorem told_w1 : nestN (rawM 40 (wdC 16)) (okM 40) 4096 false 0 20488 1 = (⟨12, 5, true, true, true, true, true, false⟩, F0, 4) := by kernel_rfl
set_option maxRecDepth 100000 in
theorem told_w2 : ∃ (oip : Nat) (o1 o2 o3 o4 o5 o6 : Bool), nestN (rawM 40 (wdC 16)) (okM 40) 4096 true 0 4104 1 = (⟨12, oip, o1, o2, o3, o4, o5, o6⟩, F0, 24) := by
  refine ⟨(nestN (rawM 40 (wdC 16)) (okM 40) 4096 true 0 4104 1).1.ip, (nestN (rawM 40 (wdC 16)) (okM 40) 4096 true 0 4104 1).1.r1, (nestN (rawM 40 (wdC 16)) (okM 40) 4096 true 0 4104 1).1.w1, (nestN (rawM 40 (wdC 16)) (okM 40) 4096 true 0 4104 1).1.x1, (nestN (rawM 40 (wdC 16)) (okM 40) 4096 true 0 4104 1).1.r2, (nestN (rawM 40 (wdC 16)) (okM 40) 4096 true 0 4104 1).1.w2, (nestN (rawM 40 (wdC 16)) (okM 40) 4096 true 0 4104 1).1.x2, ?_⟩
  kernel_rfl
set_option maxHeartbeats 16000000 in
set_option maxRecDepth 100000 in
theorem told14_calls (w : World) : Calls Try.prog 32 #[] w (RetB w (.bool true)) := by
  have hw : Calls Try.prog 29 #[.slice none 0 0] w (RetWorld w []) := world14_calls w none [] 0 (by decide) (fun i e h => by simp at h)
  have hn : ∀ y, Calls Try.prog 30 #[.pointer none, .agg #[.int .u64 0, .bool false, .int .u64 0], .int .u64 0, .int .i64 1] y (RetB y (.tuple #[.agg #[Value.int .i64 0, .int .u64 0, .bool false, .bool false, .bool false, .bool false, .bool false, .bool false], .agg #[Value.int .i64 2, .int .i64 4, .int .i64 (-1), .int .u64 0, .bool false], .int .i64 0])) := walkM_nil
  have hfr : ∀ y, Calls Try.prog 40 #[.int .i64 5] y (RetB y (.int .i64 12)) := fun y => frame14_calls 5 (by decide) y
  have he0 : ∀ y, (Op.equalIn 10000 67 (.agg #[Value.int .i64 0, .int .i64 0, .int .i64 0, .int .u64 0, .bool false]) (.agg #[Value.int .i64 0, .int .i64 0, .int .i64 0, .int .u64 0, .bool false])).run Try.prog y = .ok true y := fun y => eq_fau_self F0 y
  have he1 : ∀ y, (Op.equalIn 10000 67 (.agg #[Value.int .i64 2, .int .i64 2, .int .i64 (-1), .int .u64 16384, .bool true]) (.agg #[Value.int .i64 2, .int .i64 2, .int .i64 (-1), .int .u64 16384, .bool true])).run Try.prog y = .ok true y := fun y => eq_fau_self ⟨2, 2, -1, 16384, true⟩ y
  obtain ⟨oip, o1, o2, o3, o4, o5, o6, hv2⟩ := told_w2
  have HN := Lib.hid hn
  have HFR := Lib.hid hfr
  have HEQ := Lib.hid (And.intro he0 he1)
  have HV2 := Lib.hid hv2
  clear hn hfr he0 he1 hv2
  go_enter Try.func32, Try.ntmps32
  go_wp2_with fail
  (with_reducible refine hw.mono ?_)
  rintro e x1 ⟨p, mb, wd, rfl, hS, hwd⟩
  obtain rfl := hwd rfl
  have hm0 : MemS w p (wdC 16) 100 (fun _ => False) x1 := memS_of hS
  have hc : Calls Try.prog 30 #[.pointer (some ⟨p, 0, none⟩), .agg #[.int .u64 4096, .bool false, .int .u64 0], .int .u64 20488, .int .i64 1] x1 (RetW w p (wdC 16) 124 (fun _ => False) x1 (⟨12, 5, true, true, true, true, true, false⟩, F0, 4)) := by
    have h := memS_walk hm0 (by decide) 4096 0 20488 false (by decide) (by decide) (by decide) 1
    rw [told_w1] at h
    exact h
  clear hw hS hwd hm0
  go_wp2_with fail
  (with_reducible refine hc.mono ?_)
  rintro e y1 ⟨rfl, hm, -, -⟩
  have HM1 := Lib.hid hm
  clear hc hm
  dsimp only [O8.cells, F5.cells, F0]
  obtain ⟨Y1, hY1, hOY1, hob1, hfb1, hsY1, i1, i2⟩ := pair_new y1 #[Value.int .i64 0, .int .u64 0, .bool false, .bool false, .bool false, .bool false, .bool false, .bool false] #[Value.int .i64 0, .int .i64 0, .int .i64 0, .int .u64 0, .bool false] #[Value.int .i64 12, .int .u64 5, .bool true, .bool true, .bool true, .bool true, .bool true, .bool false] #[Value.int .i64 0, .int .i64 0, .int .i64 0, .int .u64 0, .bool false] 65 67
  have HY1 := Lib.hid (And.intro hOY1 (And.intro hob1 (And.intro hfb1 hsY1)))
  have HEY1 := Lib.hid hY1
  have I1Y1 := Lib.hid i1
  have I2Y1 := Lib.hid i2
  clear hY1 hOY1 hob1 hfb1 hsY1 i1 i2
  go_upto_region 5 with (first | (refine wpList_store_whole rfl 65 _ _ rfl y1.heap.size [Value.int .i64 12, .int .u64 5, .bool true, .bool true, .bool true, .bool true, .bool true, .bool false] rfl rfl 65 _ I1Y1.out (by kernel_rfl) rfl (by intro v hv; simp only [List.mem_cons, List.not_mem_nil, or_false] at hv; rcases hv with rfl | rfl | rfl | rfl | rfl | rfl | rfl | rfl <;> rfl) ?_) | (refine wpList_store_whole rfl 67 _ _ rfl (y1.heap.size + 1) [Value.int .i64 0, .int .i64 0, .int .i64 0, .int .u64 0, .bool false] rfl rfl 67 _ I2Y1.out (by kernel_rfl) rfl (by intro v hv; simp only [List.mem_cons, List.not_mem_nil, or_false] at hv; rcases hv with rfl | rfl | rfl | rfl | rfl <;> rfl) ?_))
  rw [← HEY1.out]
  clear HEY1 I1Y1 I2Y1
  obtain ⟨fb1, hfb1⟩ : ∃ fb1, fb1 = y1.heap.size + 1 := ⟨_, rfl⟩
  obtain ⟨ob1, hob1⟩ : ∃ ob1, ob1 = y1.heap.size := ⟨_, rfl⟩
  rw [← hfb1, ← hob1]
  rw [← hfb1, ← hob1] at HY1
  have HBY1 := Lib.hid (And.intro hob1 hfb1)
  clear hfb1 hob1
  have hm1 : MemS w p (wdC 16) 124 (fun b => b = ob1 ∨ b = fb1) Y1 := memS_new HM1.out HY1.out.1 (fun b hb => .inr (by have := HBY1.out; omega))
  have hc : Calls Try.prog 30 #[.pointer (some ⟨p, 0, none⟩), .agg #[.int .u64 4096, .bool true, .int .u64 0], .int .u64 4104, .int .i64 1] Y1 (RetW w p (wdC 16) 148 (fun b => b = ob1 ∨ b = fb1) Y1 (⟨12, oip, o1, o2, o3, o4, o5, o6⟩, F0, 24)) := by
    have h := memS_walk hm1 (by decide) 4096 0 4104 true (by decide) (by decide) (by decide) 1
    rw [HV2.out] at h
    exact h
  clear hm1
  go_wp2_with fail
  (with_reducible refine hc.mono ?_)
  rintro e y2 ⟨rfl, hm, hk, hsz⟩
  have HM2 := Lib.hid (And.intro hm (And.intro (hk ob1 _ (.inl rfl) HY1.out.2.1) (And.intro (hk fb1 _ (.inr rfl) HY1.out.2.2.1) hsz)))
  clear hc hm hk hsz
  dsimp only [O8.cells, F5.cells, F0]
  obtain ⟨Y2, hY2, hOY2, hob2, hfb2, hsY2, i1, i2⟩ := pair_new y2 #[Value.int .i64 0, .int .u64 0, .bool false, .bool false, .bool false, .bool false, .bool false, .bool false] #[Value.int .i64 0, .int .i64 0, .int .i64 0, .int .u64 0, .bool false] #[Value.int .i64 12, .int .u64 (oip : Nat), .bool o1, .bool o2, .bool o3, .bool o4, .bool o5, .bool o6] #[Value.int .i64 0, .int .i64 0, .int .i64 0, .int .u64 0, .bool false] 65 67
  have HY2 := Lib.hid (And.intro hOY2 (And.intro hob2 (And.intro hfb2 hsY2)))
  have HEY2 := Lib.hid hY2
  have I1Y2 := Lib.hid i1
  have I2Y2 := Lib.hid i2
  clear hY2 hOY2 hob2 hfb2 hsY2 i1 i2
  go_upto_region 6 with (first | (refine wpList_store_whole rfl 65 _ _ rfl y2.heap.size [Value.int .i64 12, .int .u64 (oip : Nat), .bool o1, .bool o2, .bool o3, .bool o4, .bool o5, .bool o6] rfl rfl 65 _ I1Y2.out (by kernel_rfl) rfl (by intro v hv; simp only [List.mem_cons, List.not_mem_nil, or_false] at hv; rcases hv with rfl | rfl | rfl | rfl | rfl | rfl | rfl | rfl <;> rfl) ?_) | (refine wpList_store_whole rfl 67 _ _ rfl (y2.heap.size + 1) [Value.int .i64 0, .int .i64 0, .int .i64 0, .int .u64 0, .bool false] rfl rfl 67 _ I2Y2.out (by kernel_rfl) rfl (by intro v hv; simp only [List.mem_cons, List.not_mem_nil, or_false] at hv; rcases hv with rfl | rfl | rfl | rfl | rfl <;> rfl) ?_))
  rw [← HEY2.out]
  clear HEY2 I1Y2 I2Y2
  obtain ⟨fb2, hfb2⟩ : ∃ fb2, fb2 = y2.heap.size + 1 := ⟨_, rfl⟩
  obtain ⟨ob2, hob2⟩ : ∃ ob2, ob2 = y2.heap.size := ⟨_, rfl⟩
  rw [← hfb2, ← hob2]
  rw [← hfb2, ← hob2] at HY2
  have HBY2 := Lib.hid (And.intro hob2 hfb2)
  clear hfb2 hob2
  have hm2 : MemS w p (wdC 16) 148 (fun b => (b = ob1 ∨ b = fb1) ∨ b = ob2 ∨ b = fb2) Y2 := memS_new HM2.out.1 HY2.out.1 (fun b hb => hb.imp id (fun h => by have := HBY2.out; omega))
  have hc : Calls Try.prog 33 #[.pointer (some ⟨p, 0, none⟩), .int .u64 4096, .int .u64 16384, .int .i64 2] Y2 (RetW w p (wdC 16) 152 (fun b => (b = ob1 ∨ b = fb1) ∨ b = ob2 ∨ b = fb2) Y2 (O0, ⟨2, 2, -1, 16384, true⟩, 4)) := by
    have h := memS_second hm2 (by decide) 4096 16384 (by decide) (by decide) 2
    rw [told_v3] at h
    exact h
  have a1 := keep_old HY2.out.1 HM2.out.2.1
  have a2 := keep_old HY2.out.1 HM2.out.2.2.1
  have HA := Lib.hid (And.intro a1 a2)
  clear hm2 a1 a2
  go_wp2_with fail
  (with_reducible refine hc.mono ?_)
  rintro e y3 ⟨rfl, hm, hk, hsz⟩
  have HM3 := Lib.hid (And.intro hm (And.intro (hk ob1 _ (.inl (.inl rfl)) HA.out.1) (And.intro (hk fb1 _ (.inl (.inr rfl)) HA.out.2) (And.intro (hk ob2 _ (.inr (.inl rfl)) HY2.out.2.1) (hk fb2 _ (.inr (.inr rfl)) HY2.out.2.2.1)))))
  clear hc hm hk hsz
  dsimp only [O8.cells, F5.cells, F0, O0]
  obtain ⟨Y3, hY3, hOY3, hob3, hfb3, hsY3, i1, i2⟩ := pair_new y3 #[Value.int .i64 0, .int .u64 0, .bool false, .bool false, .bool false, .bool false, .bool false, .bool false] #[Value.int .i64 0, .int .i64 0, .int .i64 0, .int .u64 0, .bool false] #[Value.int .i64 0, .int .u64 0, .bool false, .bool false, .bool false, .bool false, .bool false, .bool false] #[Value.int .i64 2, .int .i64 2, .int .i64 (-1), .int .u64 16384, .bool true] 65 67
  have HY3 := Lib.hid (And.intro hOY3 (And.intro hob3 (And.intro hfb3 hsY3)))
  have HEY3 := Lib.hid hY3
  have I1Y3 := Lib.hid i1
  have I2Y3 := Lib.hid i2
  clear hY3 hOY3 hob3 hfb3 hsY3 i1 i2
  go_upto_region 7 with (first | (refine wpList_store_whole rfl 65 _ _ rfl y3.heap.size [Value.int .i64 0, .int .u64 0, .bool false, .bool false, .bool false, .bool false, .bool false, .bool false] rfl rfl 65 _ I1Y3.out (by kernel_rfl) rfl (by intro v hv; simp only [List.mem_cons, List.not_mem_nil, or_false] at hv; rcases hv with rfl | rfl | rfl | rfl | rfl | rfl | rfl | rfl <;> rfl) ?_) | (refine wpList_store_whole rfl 67 _ _ rfl (y3.heap.size + 1) [Value.int .i64 2, .int .i64 2, .int .i64 (-1), .int .u64 16384, .bool true] rfl rfl 67 _ I2Y3.out (by kernel_rfl) rfl (by intro v hv; simp only [List.mem_cons, List.not_mem_nil, or_false] at hv; rcases hv with rfl | rfl | rfl | rfl | rfl <;> rfl) ?_))
  rw [← HEY3.out]
  clear HEY3 I1Y3 I2Y3
  obtain ⟨fb3, hfb3⟩ : ∃ fb3, fb3 = y3.heap.size + 1 := ⟨_, rfl⟩
  obtain ⟨ob3, hob3⟩ : ∃ ob3, ob3 = y3.heap.size := ⟨_, rfl⟩
  rw [← hfb3, ← hob3]
  rw [← hfb3, ← hob3] at HY3
  have HBY3 := Lib.hid (And.intro hob3 hfb3)
  clear hfb3 hob3
  have HM4 := Lib.hid (And.intro (memS_old HM3.out.1 HY3.out.1) (And.intro (keep_old HY3.out.1 HM3.out.2.1) (And.intro (keep_old HY3.out.1 HM3.out.2.2.1) (And.intro (keep_old HY3.out.1 HM3.out.2.2.2.1) (And.intro (keep_old HY3.out.1 HM3.out.2.2.2.2) HY3.out.2.2.1)))))
  go_wp2_with fail
  (with_reducible refine (HN.out _).mono ?_)
  rintro e y4 ⟨rfl, hO4⟩
  have HO4 := Lib.hid hO4
  clear hO4
  obtain ⟨Y4, hY4, hOY4, hob4, hfb4, hsY4, i1, i2⟩ := pair_new y4 #[Value.int .i64 0, .int .u64 0, .bool false, .bool false, .bool false, .bool false, .bool false, .bool false] #[Value.int .i64 0, .int .i64 0, .int .i64 0, .int .u64 0, .bool false] #[Value.int .i64 0, .int .u64 0, .bool false, .bool false, .bool false, .bool false, .bool false, .bool false] #[Value.int .i64 2, .int .i64 4, .int .i64 (-1), .int .u64 0, .bool false] 65 67
  have HY4 := Lib.hid (And.intro hOY4 (And.intro hob4 (And.intro hfb4 hsY4)))
  have HEY4 := Lib.hid hY4
  have I1Y4 := Lib.hid i1
  have I2Y4 := Lib.hid i2
  clear hY4 hOY4 hob4 hfb4 hsY4 i1 i2
  go_upto_region 8 with (first | (refine wpList_store_whole rfl 65 _ _ rfl y4.heap.size [Value.int .i64 0, .int .u64 0, .bool false, .bool false, .bool false, .bool false, .bool false, .bool false] rfl rfl 65 _ I1Y4.out (by kernel_rfl) rfl (by intro v hv; simp only [List.mem_cons, List.not_mem_nil, or_false] at hv; rcases hv with rfl | rfl | rfl | rfl | rfl | rfl | rfl | rfl <;> rfl) ?_) | (refine wpList_store_whole rfl 67 _ _ rfl (y4.heap.size + 1) [Value.int .i64 2, .int .i64 4, .int .i64 (-1), .int .u64 0, .bool false] rfl rfl 67 _ I2Y4.out (by kernel_rfl) rfl (by intro v hv; simp only [List.mem_cons, List.not_mem_nil, or_false] at hv; rcases hv with rfl | rfl | rfl | rfl | rfl <;> rfl) ?_))
  rw [← HEY4.out]
  clear HEY4 I1Y4 I2Y4
  obtain ⟨fb4, hfb4⟩ : ∃ fb4, fb4 = y4.heap.size + 1 := ⟨_, rfl⟩
  obtain ⟨ob4, hob4⟩ : ∃ ob4, ob4 = y4.heap.size := ⟨_, rfl⟩
  rw [← hfb4, ← hob4]
  rw [← hfb4, ← hob4] at HY4
  have HBY4 := Lib.hid (And.intro hob4 hfb4)
  clear hfb4 hob4
  have hO := old_then HO4.out HY4.out.1
  have HL := Lib.hid (And.intro (keep_old hO HM4.out.2.1) (And.intro (keep_old hO HM4.out.2.2.1) (And.intro (keep_old hO HM4.out.2.2.2.1) (And.intro (keep_old hO HM4.out.2.2.2.2.1) (And.intro (keep_old hO HM4.out.2.2.2.2.2) HY4.out.2.2.1)))))
  have HOW := Lib.hid (old_then (memS_word HM4.out.1) hO)
  clear hO
  have he0 := HEQ.out.1
  have he1 := HEQ.out.2
  refine wp_region_walked (S := Old Y4) (by kernel_rfl) (by kernel_rfl) (old_drew (old_refl _)) ?_
  apply walked_cons
  · intro wS hS
    obtain ⟨k9, -, -⟩ := of_block (keep_old hS HL.out.2.1)
    have HS := Lib.hid hS
    clear hS
    go_wp2
    exact ⟨rfl, rfl, HS.out⟩
  · rfl
  (try simp only [Act.put, List.setIfInBounds_toArray, List.set_cons_succ, List.set_cons_zero])
  apply walked_cons
  · intro wS hS
    have HS := Lib.hid hS
    clear hS
    go_wp2
    exact ⟨rfl, rfl, HS.out⟩
  · rfl
  (try simp only [Act.put, List.setIfInBounds_toArray, List.set_cons_succ, List.set_cons_zero])
  apply walked_cons
  · intro wS hS
    have HS := Lib.hid hS
    clear hS
    go_wp2
    exact ⟨rfl, rfl, HS.out⟩
  · rfl
  (try simp only [Act.put, List.setIfInBounds_toArray, List.set_cons_succ, List.set_cons_zero])
  apply walked_cons
  · intro wS hS
    have HS := Lib.hid hS
    clear hS
    go_wp2
    exact ⟨rfl, rfl, HS.out⟩
  · rfl
  (try simp only [Act.put, List.setIfInBounds_toArray, List.set_cons_succ, List.set_cons_zero])
  apply walked_cons
  · intro wS hS
    have HS := Lib.hid hS
    clear hS
    go_wp2
    exact ⟨rfl, rfl, HS.out⟩
  · rfl
  (try simp only [Act.put, List.setIfInBounds_toArray, List.set_cons_succ, List.set_cons_zero])
  apply walked_cons
  · intro wS hS
    obtain ⟨k9, -, -⟩ := of_block (keep_old hS HL.out.1)
    have HS := Lib.hid hS
    clear hS
    go_wp2
    exact ⟨rfl, rfl, HS.out⟩
  · rfl
  (try simp only [Act.put, List.setIfInBounds_toArray, List.set_cons_succ, List.set_cons_zero])
  apply walked_cons
  · intro wS hS
    have HS := Lib.hid hS
    clear hS
    go_wp2_with fail
    (with_reducible refine (HFR.out _).mono ?_)
    rintro e y9 ⟨rfl, hY⟩
    have HY := Lib.hid hY
    clear hY
    go_wp2
    exact ⟨rfl, rfl, old_then HS.out HY.out⟩
  · rfl
  (try simp only [Act.put, List.setIfInBounds_toArray, List.set_cons_succ, List.set_cons_zero])
  apply walked_cons
  · intro wS hS
    have HS := Lib.hid hS
    clear hS
    go_wp2
    exact ⟨rfl, rfl, HS.out⟩
  · rfl
  (try simp only [Act.put, List.setIfInBounds_toArray, List.set_cons_succ, List.set_cons_zero])
  apply walked_cons
  · intro wS hS
    have HS := Lib.hid hS
    clear hS
    go_wp2
    exact ⟨rfl, rfl, HS.out⟩
  · rfl
  (try simp only [Act.put, List.setIfInBounds_toArray, List.set_cons_succ, List.set_cons_zero])
  apply walked_cons
  · intro wS hS
    have HS := Lib.hid hS
    clear hS
    go_wp2
    exact ⟨rfl, rfl, HS.out⟩
  · rfl
  (try simp only [Act.put, List.setIfInBounds_toArray, List.set_cons_succ, List.set_cons_zero])
  apply walked_cons
  · intro wS hS
    have HS := Lib.hid hS
    clear hS
    go_wp2
    exact ⟨rfl, rfl, HS.out⟩
  · rfl
  (try simp only [Act.put, List.setIfInBounds_toArray, List.set_cons_succ, List.set_cons_zero])
  apply walked_cons
  · intro wS hS
    obtain ⟨k9, -, -⟩ := of_block (keep_old hS HL.out.1)
    have HS := Lib.hid hS
    clear hS
    go_wp2
    exact ⟨rfl, rfl, HS.out⟩
  · rfl
  (try simp only [Act.put, List.setIfInBounds_toArray, List.set_cons_succ, List.set_cons_zero])
  apply walked_cons
  · intro wS hS
    have HS := Lib.hid hS
    clear hS
    go_wp2
    exact ⟨rfl, rfl, HS.out⟩
  · rfl
  (try simp only [Act.put, List.setIfInBounds_toArray, List.set_cons_succ, List.set_cons_zero])
  apply walked_cons
  · intro wS hS
    have HS := Lib.hid hS
    clear hS
    go_wp2
    exact ⟨rfl, rfl, HS.out⟩
  · rfl
  (try simp only [Act.put, List.setIfInBounds_toArray, List.set_cons_succ, List.set_cons_zero])
  apply walked_cons
  · intro wS hS
    have HS := Lib.hid hS
    clear hS
    go_wp2
    exact ⟨rfl, rfl, HS.out⟩
  · rfl
  (try simp only [Act.put, List.setIfInBounds_toArray, List.set_cons_succ, List.set_cons_zero])
  apply walked_cons
  · intro wS hS
    have HS := Lib.hid hS
    clear hS
    go_wp2
    exact ⟨rfl, rfl, HS.out⟩
  · rfl
  (try simp only [Act.put, List.setIfInBounds_toArray, List.set_cons_succ, List.set_cons_zero])
  apply walked_cons
  · intro wS hS
    have HS := Lib.hid hS
    clear hS
    go_wp2
    exact ⟨rfl, rfl, HS.out⟩
  · rfl
  (try simp only [Act.put, List.setIfInBounds_toArray, List.set_cons_succ, List.set_cons_zero])
  apply walked_cons
  · intro wS hS
    have HS := Lib.hid hS
    clear hS
    go_wp2
    exact ⟨rfl, rfl, HS.out⟩
  · rfl
  (try simp only [Act.put, List.setIfInBounds_toArray, List.set_cons_succ, List.set_cons_zero])
  apply walked_cons
  · intro wS hS
    have HS := Lib.hid hS
    clear hS
    go_wp2
    exact ⟨rfl, rfl, HS.out⟩
  · rfl
  (try simp only [Act.put, List.setIfInBounds_toArray, List.set_cons_succ, List.set_cons_zero])
  apply walked_cons
  · intro wS hS
    obtain ⟨k9, -, -⟩ := of_block (keep_old hS HL.out.2.2.2.1)
    have HS := Lib.hid hS
    clear hS
    go_wp2
    exact ⟨rfl, rfl, HS.out⟩
  · rfl
  (try simp only [Act.put, List.setIfInBounds_toArray, List.set_cons_succ, List.set_cons_zero])
  apply walked_cons
  · intro wS hS
    have HS := Lib.hid hS
    clear hS
    go_wp2
    exact ⟨rfl, rfl, HS.out⟩
  · rfl
  (try simp only [Act.put, List.setIfInBounds_toArray, List.set_cons_succ, List.set_cons_zero])
  apply walked_cons
  · intro wS hS
    have HS := Lib.hid hS
    clear hS
    go_wp2
    exact ⟨rfl, rfl, HS.out⟩
  · rfl
  (try simp only [Act.put, List.setIfInBounds_toArray, List.set_cons_succ, List.set_cons_zero])
  apply walked_cons
  · intro wS hS
    have HS := Lib.hid hS
    clear hS
    go_wp2
    exact ⟨rfl, rfl, HS.out⟩
  · rfl
  (try simp only [Act.put, List.setIfInBounds_toArray, List.set_cons_succ, List.set_cons_zero])
  apply walked_cons
  · intro wS hS
    have HS := Lib.hid hS
    clear hS
    go_wp2
    exact ⟨rfl, rfl, HS.out⟩
  · rfl
  (try simp only [Act.put, List.setIfInBounds_toArray, List.set_cons_succ, List.set_cons_zero])
  apply walked_cons
  · intro wS hS
    have HS := Lib.hid hS
    clear hS
    go_wp2
    exact ⟨rfl, rfl, HS.out⟩
  · rfl
  (try simp only [Act.put, List.setIfInBounds_toArray, List.set_cons_succ, List.set_cons_zero])
  apply walked_cons
  · intro wS hS
    obtain ⟨k9, -, -⟩ := of_block (keep_old hS HL.out.2.2.1)
    have HS := Lib.hid hS
    clear hS
    go_wp2
    exact ⟨rfl, rfl, HS.out⟩
  · rfl
  (try simp only [Act.put, List.setIfInBounds_toArray, List.set_cons_succ, List.set_cons_zero])
  apply walked_cons
  · intro wS hS
    have HS := Lib.hid hS
    clear hS
    go_wp2_with fail
    (with_reducible refine (HFR.out _).mono ?_)
    rintro e y9 ⟨rfl, hY⟩
    have HY := Lib.hid hY
    clear hY
    go_wp2
    exact ⟨rfl, rfl, old_then HS.out HY.out⟩
  · rfl
  (try simp only [Act.put, List.setIfInBounds_toArray, List.set_cons_succ, List.set_cons_zero])
  apply walked_cons
  · intro wS hS
    have HS := Lib.hid hS
    clear hS
    go_wp2
    exact ⟨rfl, rfl, HS.out⟩
  · rfl
  (try simp only [Act.put, List.setIfInBounds_toArray, List.set_cons_succ, List.set_cons_zero])
  apply walked_cons
  · intro wS hS
    have HS := Lib.hid hS
    clear hS
    go_wp2
    exact ⟨rfl, rfl, HS.out⟩
  · rfl
  (try simp only [Act.put, List.setIfInBounds_toArray, List.set_cons_succ, List.set_cons_zero])
  apply walked_cons
  · intro wS hS
    have HS := Lib.hid hS
    clear hS
    go_wp2
    exact ⟨rfl, rfl, HS.out⟩
  · rfl
  (try simp only [Act.put, List.setIfInBounds_toArray, List.set_cons_succ, List.set_cons_zero])
  apply walked_cons
  · intro wS hS
    have HS := Lib.hid hS
    clear hS
    go_wp2
    exact ⟨rfl, rfl, HS.out⟩
  · rfl
  (try simp only [Act.put, List.setIfInBounds_toArray, List.set_cons_succ, List.set_cons_zero])
  apply walked_cons
  · intro wS hS
    have HS := Lib.hid hS
    clear hS
    go_wp2
    exact ⟨rfl, rfl, HS.out⟩
  · rfl
  (try simp only [Act.put, List.setIfInBounds_toArray, List.set_cons_succ, List.set_cons_zero])
  apply walked_cons
  · intro wS hS
    have HS := Lib.hid hS
    clear hS
    go_wp2
    exact ⟨rfl, rfl, HS.out⟩
  · rfl
  (try simp only [Act.put, List.setIfInBounds_toArray, List.set_cons_succ, List.set_cons_zero])
  apply walked_cons
  · intro wS hS
    have HS := Lib.hid hS
    clear hS
    go_wp2
    exact ⟨rfl, rfl, HS.out⟩
  · rfl
  (try simp only [Act.put, List.setIfInBounds_toArray, List.set_cons_succ, List.set_cons_zero])
  apply walked_cons
  · intro wS hS
    obtain ⟨k9, -, -⟩ := of_block (keep_old hS HL.out.2.2.2.2.1)
    have HS := Lib.hid hS
    clear hS
    go_wp2
    exact ⟨rfl, rfl, HS.out⟩
  · rfl
  (try simp only [Act.put, List.setIfInBounds_toArray, List.set_cons_succ, List.set_cons_zero])
  apply walked_cons
  · intro wS hS
    have HS := Lib.hid hS
    clear hS
    go_wp2
    exact ⟨rfl, rfl, HS.out⟩
  · rfl
  (try simp only [Act.put, List.setIfInBounds_toArray, List.set_cons_succ, List.set_cons_zero])
  apply walked_cons
  · intro wS hS
    have HS := Lib.hid hS
    clear hS
    go_wp2
    exact ⟨rfl, rfl, HS.out⟩
  · rfl
  (try simp only [Act.put, List.setIfInBounds_toArray, List.set_cons_succ, List.set_cons_zero])
  apply walked_cons
  · intro wS hS
    have HS := Lib.hid hS
    clear hS
    go_wp2
    exact ⟨rfl, rfl, HS.out⟩
  · rfl
  (try simp only [Act.put, List.setIfInBounds_toArray, List.set_cons_succ, List.set_cons_zero])
  apply walked_cons
  · intro wS hS
    have HS := Lib.hid hS
    clear hS
    go_wp2
    exact ⟨rfl, rfl, HS.out⟩
  · rfl
  (try simp only [Act.put, List.setIfInBounds_toArray, List.set_cons_succ, List.set_cons_zero])
  apply walked_cons
  · intro wS hS
    have HS := Lib.hid hS
    clear hS
    go_wp2
    exact ⟨rfl, rfl, HS.out⟩
  · rfl
  (try simp only [Act.put, List.setIfInBounds_toArray, List.set_cons_succ, List.set_cons_zero])
  apply walked_cons
  · intro wS hS
    obtain ⟨k9, -, -⟩ := of_block (keep_old hS HL.out.2.2.2.2.2)
    have HS := Lib.hid hS
    clear hS
    go_wp2
    exact ⟨rfl, rfl, HS.out⟩
  · rfl
  (try simp only [Act.put, List.setIfInBounds_toArray, List.set_cons_succ, List.set_cons_zero])
  apply walked_cons
  · intro wS hS
    have HS := Lib.hid hS
    clear hS
    go_wp2
    exact ⟨rfl, rfl, HS.out⟩
  · rfl
  (try simp only [Act.put, List.setIfInBounds_toArray, List.set_cons_succ, List.set_cons_zero])
  apply walked_cons
  · intro wS hS
    have HS := Lib.hid hS
    clear hS
    go_wp2
    exact ⟨rfl, rfl, HS.out⟩
  · rfl
  (try simp only [Act.put, List.setIfInBounds_toArray, List.set_cons_succ, List.set_cons_zero])
  apply walked_cons
  · intro wS hS
    have HS := Lib.hid hS
    clear hS
    go_wp2
    exact ⟨rfl, rfl, HS.out⟩
  · rfl
  (try simp only [Act.put, List.setIfInBounds_toArray, List.set_cons_succ, List.set_cons_zero])
  apply walked_nil
  intro wS hS
  have HS := Lib.hid hS
  clear hS
  go_wp2
  go_ret
  exact ⟨rfl, old_then HOW.out HS.out⟩
end Go.Proofs.Ytlbehhbicmmdoaa
namespace Go.Proofs.Ytlbehhbicmmdoaa
set_option linter.unusedVariables false
set_option linter.unusedSimpArgs false
open Go.RowKit
set_option maxHeartbeats 16000000 in
set_option maxRecDepth 100000 in
theorem same14_calls {w : World} (o : O8) (f : F5) (n : Nat) : Calls Try.prog 36 #[.agg o.cells, .agg f.cells, .int .i64 (n : Nat), .agg o.cells, .agg f.cells, .int .i64 (n : Nat)] w (RetB w (.bool true)) := by
  obtain ⟨ofr, oip, o1, o2, o3, o4, o5, o6⟩ := o
  obtain ⟨fst, fk, flv, fad, fsto⟩ := f
  have he0 : ∀ y, (Op.equalIn 10000 65 (.agg #[Value.int .i64 (ofr : Nat), .int .u64 (oip : Nat), .bool o1, .bool o2, .bool o3, .bool o4, .bool o5, .bool o6]) (.agg #[Value.int .i64 (ofr : Nat), .int .u64 (oip : Nat), .bool o1, .bool o2, .bool o3, .bool o4, .bool o5, .bool o6])).run Try.prog y = .ok true y := fun y => eq_out_self ⟨ofr, oip, o1, o2, o3, o4, o5, o6⟩ y
  have he1 : ∀ y, (Op.equalIn 10000 67 (.agg #[Value.int .i64 fst, .int .i64 fk, .int .i64 flv, .int .u64 (fad : Nat), .bool fsto]) (.agg #[Value.int .i64 fst, .int .i64 fk, .int .i64 flv, .int .u64 (fad : Nat), .bool fsto])).run Try.prog y = .ok true y := fun y => eq_fau_self ⟨fst, fk, flv, fad, fsto⟩ y
  dsimp only [O8.cells, F5.cells]
  go_enter Try.func36, Try.ntmps36
  go_upto_region 1 with (fail)
  have hH := holds_new #[Value.int .i64 fst, .int .i64 fk, .int .i64 flv, .int .u64 (fad : Nat), .bool fsto] 67 (holds_new #[Value.int .i64 (ofr : Nat), .int .u64 (oip : Nat), .bool o1, .bool o2, .bool o3, .bool o4, .bool o5, .bool o6] 77 (holds_new #[Value.int .i64 fst, .int .i64 fk, .int .i64 flv, .int .u64 (fad : Nat), .bool fsto] 67 (holds_new #[Value.int .i64 (ofr : Nat), .int .u64 (oip : Nat), .bool o1, .bool o2, .bool o3, .bool o4, .bool o5, .bool o6] 65 (holds_nil w))))
  simp only [World.size_alloc] at hH
  generalize (((w.alloc (.cells #[Value.int .i64 (ofr : Nat), .int .u64 (oip : Nat), .bool o1, .bool o2, .bool o3, .bool o4, .bool o5, .bool o6] 65)).alloc (.cells #[Value.int .i64 fst, .int .i64 fk, .int .i64 flv, .int .u64 (fad : Nat), .bool fsto] 67)).alloc (.cells #[Value.int .i64 (ofr : Nat), .int .u64 (oip : Nat), .bool o1, .bool o2, .bool o3, .bool o4, .bool o5, .bool o6] 77)).alloc (.cells #[Value.int .i64 fst, .int .i64 fk, .int .i64 flv, .int .u64 (fad : Nat), .bool fsto] 67) = W at *
  obtain ⟨g0, g1, g2, g3, g4, -⟩ := hH
  obtain ⟨k1, -, -⟩ := of_block g1
  obtain ⟨k2, -, -⟩ := of_block g2
  obtain ⟨k3, -, -⟩ := of_block g3
  obtain ⟨k4, -, -⟩ := of_block g4
  have HO := Lib.hid g0
  clear g0 g1 g2 g3 g4
  go_wp2
  go_ret
  exact ⟨rfl, HO.out⟩
/-- A memory as the document reads it. -/
def RetMemR (x : World) (wd : Nat → Nat) (e : Ending) (y : World) : Prop :=
  ∃ dm pgs, e = .returned (.pointer (some ⟨dm, 0, none⟩)) ∧ Old x y ∧ DocM y dm 40 pgs ∧ ∀ a, okM 40 a = true → getN (pgs (a / 4096)) (a % 4096) 8 = wd a
section
variable {w0 x y : World} {p N : Nat} {B : Nat → Prop} {wd : Nat → Nat}
theorem memS_read (h : MemS w0 p wd N B x) : Calls Try.prog 35 #[.pointer (some ⟨p, 0, none⟩)] x (RetMemR x wd) := by
  obtain ⟨X, h1, h2, ⟨pg, ops, ho, hm, hw⟩, h4⟩ := h
  refine (read14_calls hm).mono ?_
  rintro e y ⟨dm, rfl, hO, hD⟩
  exact ⟨dm, _, rfl, hO, hD, fun a ha => hw a ha⟩
theorem memS_raw (h : MemS w0 p wd N B x) (a : Nat) : rawM 40 wd a < 18446744073709551616 := by
  obtain ⟨X, h1, h2, h3, h4⟩ := h
  exact rawM_lt h3 a
end
end Go.Proofs.Ytlbehhbicmmdoaa
namespace Go.Proofs.Ytlbehhbicmmdoaa
set_option linter.unusedVariables false
set_option linter.unusedSimpArgs false
open Go.RowKit
section
variable {P : Program} {ops : Array Oper} {Q : Exit → Act → World → Prop}
/-- The operations one by one, in the order of the text; those that F names give what they will. -/
def WalkedE (P : Program) (ops : Array Oper) (S : (Nat → Value) → Array Bool → World → Prop) (F : Nat → Bool) (n : Nat) (Q : (Nat → Value) → Act → Prop) : List Oper → Nat → ((Nat → Value) → Act) → Prop
  | [], _, a => ∀ v, Q v (a v)
  | o :: r, j, a => (F j = true ∧ (∀ (v : Nat → Value) (l : Array Bool) (b : Act) (x : World) (K : Act → World → Prop) (Q : Exit → Act → World → Prop), Agree ops o (a v) b → l.size = n → l.getD (j) false = false → AllMet ops l (j) → S v l x → (∀ u y, S (updV v (j) u) (l.setIfInBounds (j) true) y → K (b.put o.dst u) y) → (if Region.wanted o (yielded ops b.tmps) then o.wp P b x K Q ∨ (o.asks P b x ∧ LetsOut Q) else K (b.put o.dst undef) x)) ∧ WalkedE P ops S F n Q r (j + 1) (fun v => (a v).put o.dst (v j))) ∨ (F j = false ∧ ∃ u : (Nat → Value) → Value, (∀ v i x l, AllMet ops l j → l.getD i false = false → u (updV v i x) = u v) ∧ (∀ v, GivesM P ops (S v) n j o (a v) ((a v).put o.dst (u v))) ∧ WalkedE P ops S F n Q r (j + 1) (fun v => (a v).put o.dst (u v)))
section
variable {S : (Nat → Value) → Array Bool → World → Prop}
theorem walkedE_chain {F : Nat → Bool} {n : Nat} {Qf : (Nat → Value) → Act → Prop} : ∀ {L : List Oper} (_ : ∀ (j : Nat) (o : Oper), L[j]? = some o → ∀ cs c, o.op ≠ .select cs c) (a : (Nat → Value) → Act) {j0 : Nat}, WalkedE P ops S F n Qf L j0 a →
    ∃ A : (Nat → Value) → Nat → Act, (∀ v, A v 0 = a v) ∧ (∀ k o, L[k]? = some o → F (j0 + k) = false → ∃ u : (Nat → Value) → Value, (∀ v i x l, AllMet ops l (j0 + k) → l.getD i false = false → u (updV v i x) = u v) ∧ ∀ v, A v (k + 1) = (A v k).put o.dst (u v) ∧ ∀ (l : Array Bool) (b : Act) (w : World) (K : Act → World → Prop) (Q : Exit → Act → World → Prop), Agree ops o (A v k) b → l.size = n → l.getD (j0 + k) false = false → AllMet ops l (j0 + k) → S v l w →
      (∀ w', S v (l.setIfInBounds (j0 + k) true) w' → K (b.put o.dst (u v)) w') → (if Region.wanted o (yielded ops b.tmps) then o.wp P b w K Q ∨ (o.asks P b w ∧ LetsOut Q) else K (b.put o.dst undef) w)) ∧
      (∀ k o, L[k]? = some o → F (j0 + k) = true → ∀ v, A v (k + 1) = (A v k).put o.dst (v (j0 + k))) ∧ (∀ k o, L[k]? = some o → F (j0 + k) = true → (∀ (v : Nat → Value) (l : Array Bool) (b : Act) (x : World) (K : Act → World → Prop) (Q : Exit → Act → World → Prop), Agree ops o (A v k) b → l.size = n → l.getD (j0 + k) false = false → AllMet ops l (j0 + k) → S v l x → (∀ u y, S (updV v (j0 + k) u) (l.setIfInBounds (j0 + k) true) y → K (b.put o.dst u) y) → (if Region.wanted o (yielded ops b.tmps) then o.wp P b x K Q ∨ (o.asks P b x ∧ LetsOut Q) else K (b.put o.dst undef) x))) ∧ ∀ v, Qf v (A v L.length) := by
  intro L
  induction L with
  | nil => intro _ a j0 h; exact ⟨fun v _ => a v, fun _ => rfl, fun k o hk => by simp at hk, fun k o hk => by simp at hk, fun k o hk => by simp at hk, h⟩
  | cons o L ih =>
    intro hs a j0 h
    rcases h with ⟨hj, hru, hr⟩ | ⟨hj, u, hdp, hg, hr⟩
    · obtain ⟨A, hA0, hA1, hA2, hA4, hA3⟩ := ih (fun j o' ho' => hs (j + 1) o' (by simpa using ho')) _ hr
      refine ⟨fun v k => match k with | 0 => a v | k + 1 => A v k, fun _ => rfl, fun k o' hk hF => ?_, fun k o' hk hF v => ?_, fun k o' hk hF => ?_, hA3⟩
      · cases k with
        | zero =>
          rw [Nat.add_zero, hj] at hF; cases hF
        | succ k =>
          have := hA1 k o' (by simpa using hk) (by rw [show j0 + 1 + k = j0 + (k + 1) by omega]; exact hF)
          rw [show j0 + 1 + k = j0 + (k + 1) by omega] at this
          exact this
      · cases k with
        | zero =>
          simp at hk
          subst hk
          show A v 0 = (a v).put o.dst (v (j0 + 0))
          rw [hA0]; rfl
        | succ k =>
          have := hA2 k o' (by simpa using hk) (by rw [show j0 + 1 + k = j0 + (k + 1) by omega]; exact hF) v
          rw [show j0 + 1 + k = j0 + (k + 1) by omega] at this
          exact this
      · cases k with
        | zero =>
          simp at hk
          subst hk
          exact hru
        | succ k => 
          have := hA4 k o' (by simpa using hk) (by rw [show j0 + 1 + k = j0 + (k + 1) by omega]; exact hF)
          rw [show j0 + 1 + k = j0 + (k + 1) by omega] at this
          exact this
    · obtain ⟨A, hA0, hA1, hA2, hA4, hA3⟩ := ih (fun j o' ho' => hs (j + 1) o' (by simpa using ho')) _ hr
      refine ⟨fun v k => match k with | 0 => a v | k + 1 => A v k, fun _ => rfl, fun k o' hk hF => ?_, fun k o' hk hF v => ?_, fun k o' hk hF => ?_, hA3⟩
      · cases k with
        | zero =>
          simp at hk
          subst hk
          exact ⟨u, hdp, fun v => ⟨by show A v 0 = _; rw [hA0], gives_stepF (hg v) (hs 0 o rfl)⟩⟩
        | succ k =>
          have := hA1 k o' (by simpa using hk) (by rw [show j0 + 1 + k = j0 + (k + 1) by omega]; exact hF)
          rw [show j0 + 1 + k = j0 + (k + 1) by omega] at this
          exact this
      · cases k with
        | zero => rw [Nat.add_zero, hj] at hF; cases hF
        | succ k =>
          have := hA2 k o' (by simpa using hk) (by rw [show j0 + 1 + k = j0 + (k + 1) by omega]; exact hF) v
          rw [show j0 + 1 + k = j0 + (k + 1) by omega] at this
          exact this
      · cases k with
        | zero => rw [Nat.add_zero, hj] at hF; cases hF
        | succ k => 
          have := hA4 k o' (by simpa using hk) (by rw [show j0 + 1 + k = j0 + (k + 1) by omega]; exact hF)
          rw [show j0 + 1 + k = j0 + (k + 1) by omega] at this
          exact this
/-- **As wp_region_met; the operations that F names are allocations that may come anywhere.** -/
theorem wp_region_freesE (F : Nat → Bool) (m : Nat) {id : Nat} {a : Act} {w : World}
    (hm : P.follows .mixedOrders = true) (hok : seqOk ops = true) (ht : tailOk ops m = true) (hms : m ≤ ops.size) (v0 : Nat → Value) (hS : S v0 (Array.replicate ops.size false) w.drew)
    (h : WalkedE P ops S F ops.size (fun v a' => ∀ l w', l.size = ops.size → (∀ k, k < m → l.getD k false = true) → S v l w' → wpList P ops Q (ops.toList.drop m) a' w') (ops.toList.take m) 0 (fun _ => a)) : (Code.region id ops true).wp P Q a w := by
  obtain ⟨A, hA0, hA1, hA2, hA4, hQ⟩ := walkedE_chain (fun j o ho => (seqOk_spec (j := j) hok (by rw [List.getElem?_take] at ho; split at ho; (· simpa using ho); (· cases ho))).1) _ h
  have hA' : ∀ k o, k < m → ops[k]? = some o → F k = false → ∃ u : (Nat → Value) → Value, (∀ v i x l, AllMet ops l k → l.getD i false = false → u (updV v i x) = u v) ∧ ∀ v, A v (k + 1) = (A v k).put o.dst (u v) ∧ ∀ (l : Array Bool) (b : Act) (w : World) (K : Act → World → Prop) (Q : Exit → Act → World → Prop), Agree ops o (A v k) b → l.size = ops.size → l.getD k false = false → AllMet ops l k → S v l w →
      (∀ w', S v (l.setIfInBounds k true) w' → K (b.put o.dst (u v)) w') → (if Region.wanted o (yielded ops b.tmps) then o.wp P b w K Q ∨ (o.asks P b w ∧ LetsOut Q) else K (b.put o.dst undef) w) := fun k o hk ho hkF => by
    simpa using hA1 k o (by rw [List.getElem?_take, if_pos hk]; simpa using ho) (by rw [Nat.zero_add]; exact hkF)
  have hAF : ∀ k o v, k < m → ops[k]? = some o → F k = true → A v (k + 1) = (A v k).put o.dst (v k) := fun k o v hk ho hkF => by
    have := hA2 k o (by rw [List.getElem?_take, if_pos hk]; simpa using ho) (by rw [Nat.zero_add]; exact hkF) v
    rw [Nat.zero_add] at this
    exact this
  have hAR : ∀ k o, k < m → ops[k]? = some o → F k = true → (∀ (v : Nat → Value) (l : Array Bool) (b : Act) (x : World) (K : Act → World → Prop) (Q : Exit → Act → World → Prop), Agree ops o (A v k) b → l.size = ops.size → l.getD (k) false = false → AllMet ops l (k) → S v l x → (∀ u y, S (updV v (k) u) (l.setIfInBounds (k) true) y → K (b.put o.dst u) y) → (if Region.wanted o (yielded ops b.tmps) then o.wp P b x K Q ∨ (o.asks P b x ∧ LetsOut Q) else K (b.put o.dst undef) x)) := fun k o hk ho hkF => by
    have := hA4 k o (by rw [List.getElem?_take, if_pos hk]; simpa using ho) (by rw [Nat.zero_add]; exact hkF)
    simpa only [Nat.zero_add] using this
  have hAll : ∀ v k o, k < m → ops[k]? = some o → ∃ u, A v (k + 1) = (A v k).put o.dst u := fun v k o hk ho => by
    cases hkF : F k with
    | true => exact ⟨v k, hAF k o v hk ho hkF⟩
    | false =>
      obtain ⟨u, -, hu⟩ := hA' k o hk ho hkF
      exact ⟨u v, (hu v).1⟩
  have hlen : (ops.toList.take m).length = m := by simp [Nat.min_eq_left hms]
  rw [hlen] at hQ
  have asz : ∀ v k, k ≤ m → (A v k).tmps.size = a.tmps.size ∧ (A v k).defers = a.defers := by
    intro v k
    induction k with
    | zero => intro _; rw [hA0 v]; exact ⟨rfl, rfl⟩
    | succ k ih =>
      intro hk
      obtain ⟨u, hv⟩ := hAll v k _ (by omega) (Array.getElem?_eq_getElem (show k < ops.size by omega))
      obtain ⟨i1, i2⟩ := ih (by omega)
      rw [hv, put_size, put_defs]; exact ⟨i1, i2⟩
  have far : ∀ v k t n, k ≤ n → n ≤ m → (∀ i o, k ≤ i → i < n → ops[i]? = some o → o.dst ≠ some t) → (A v n).tmps[t]? = (A v k).tmps[t]? := by
    intro v k t n
    induction n with
    | zero => intro h1 _ _; rw [show k = 0 by omega]
    | succ n ih =>
      intro h1 h2 hno
      by_cases hkm : k = n + 1
      · rw [hkm]
      · obtain ⟨u, hv⟩ := hAll v n _ (by omega) (Array.getElem?_eq_getElem (show n < ops.size by omega))
        rw [hv, put_ne (hno n _ (by omega) (by omega) (Array.getElem?_eq_getElem (show n < ops.size by omega)))]
        exact ih (by omega) (by omega) (fun i o hi hi' ho => hno i o hi (by omega) ho)
  have unlike : ∀ (i j : Nat) (oi oj : Oper) (t : Tmp), ops[i]? = some oi → ops[j]? = some oj → oi.dst = some t → oj.dst = some t → i = j := by
    intro i j oi oj t hi hj ti tj
    by_cases e : i = j
    · exact e
    · exact absurd tj (((seqOk_spec hok hj).2.2 i oi hi e t ti).1)
  have same : ∀ (v : Nat → Value) (j : Nat) (x : Value) (l : Array Bool) (k : Nat) (o : Oper) (t : Tmp), ops[k]? = some o → k < m → k ≠ j → AllMet ops l k → l.getD j false = false → o.dst = some t → (A (updV v j x) m).tmps[t]? = (A v m).tmps[t]? := by
    intro v j x l k o t ho hk hkj hmk hlj ht
    obtain ⟨u, hu1, hu2⟩ : ∃ u, A (updV v j x) (k + 1) = (A (updV v j x) k).put o.dst u ∧ A v (k + 1) = (A v k).put o.dst u := by
      cases hF : F k with
      | true => exact ⟨v k, by rw [← updV_ne (v := v) x hkj]; exact hAF k o _ hk ho hF, hAF k o v hk ho hF⟩
      | false =>
        obtain ⟨u, hd, hu⟩ := hA' k o hk ho hF
        exact ⟨u v, by rw [← hd v j x l hmk hlj]; exact (hu _).1, (hu v).1⟩
    have hno : ∀ i oi, k + 1 ≤ i → i < m → ops[i]? = some oi → oi.dst ≠ some t := fun i oi hi _ hoi hti => by
      have : i = k := unlike i k oi o t hoi ho hti ht
      omega
    rw [far _ (k + 1) t m (by omega) (Nat.le_refl _) hno, far v (k + 1) t m (by omega) (Nat.le_refl _) hno, hu1, hu2, ht]
    exact put_at (by rw [(asz v k (by omega)).1, (asz _ k (by omega)).1])
  have main : ∀ (fuel : Nat) (listed : Array Bool) (b : Act) (w : World), ((List.range m).filter (fun k => !listed.getD k true)).length + (ops.size - m) ≤ fuel →
      (∃ v, Midway ops a (A v m) listed b ∧ S v listed w) → (∀ k, listed.getD k false = true → k < m) → wpAny P .any ops Q fuel listed b w := by
    intro fuel
    induction fuel with
    | zero =>
      intro listed b w hf hMw hin
      obtain ⟨vv, hM, hw⟩ := hMw
      have hall : ∀ k, k < m → listed.getD k false = true := by
        intro k hk
        have hnil : (List.range m).filter (fun k => !listed.getD k true) = [] := List.length_eq_zero_iff.1 (by omega)
        have := (List.filter_eq_nil_iff.1 hnil) k (List.mem_range.2 hk)
        have hkl : k < listed.size := by rw [hM.len]; omega
        simpa [hkl] using this
      have hfin : b = A vv m := by
        refine act_ext (Array.ext_getElem? fun t => ?_) (by rw [hM.defers, (asz vv _ (Nat.le_refl _)).2])
        by_cases hx : ∃ (k : Nat) (o : Oper), k < m ∧ ops[k]? = some o ∧ o.dst = some t
        · obtain ⟨k, o, hk, ho, ht⟩ := hx
          exact hM.done k o t ho (hall k hk) ht
        · rw [hM.left t (fun k o ho hl ht => hx ⟨k, o, hin k hl, ho, ht⟩), far vv 0 t m (by omega) (Nat.le_refl _) (fun i o _ hi ho ht => hx ⟨i, o, hi, ho, ht⟩), hA0 vv]
      rw [hfin]
      exact forced hok ht (ops.size - m) m 0 listed _ w rfl (by omega) (Nat.le_refl _) hms ⟨hM.len, fun i _ => ⟨fun e => hin i e, fun e => hall i e⟩⟩ hM.closed (hQ vv listed w hM.len hall hw)
    | succ fuel ih =>
      intro listed b w hf hMw hin
      obtain ⟨vv, hM, hw⟩ := hMw
      by_cases hall : ∀ k, k < m → listed.getD k false = true
      · have hfin : b = A vv m := by
          refine act_ext (Array.ext_getElem? fun t => ?_) (by rw [hM.defers, (asz vv _ (Nat.le_refl _)).2])
          by_cases hx : ∃ (k : Nat) (o : Oper), k < m ∧ ops[k]? = some o ∧ o.dst = some t
          · obtain ⟨k, o, hk, ho, ht⟩ := hx
            exact hM.done k o t ho (hall k hk) ht
          · rw [hM.left t (fun k o ho hl ht => hx ⟨k, o, hin k hl, ho, ht⟩), far vv 0 t m (by omega) (Nat.le_refl _) (fun i o _ hi ho ht => hx ⟨i, o, hi, ho, ht⟩), hA0 vv]
        rw [hfin]
        exact forced hok ht (ops.size - m) m (fuel + 1) listed _ w rfl (by omega) (Nat.le_refl _) hms ⟨hM.len, fun i _ => ⟨fun e => hin i e, fun e => hall i e⟩⟩ hM.closed (hQ vv listed w hM.len hall hw)
      · refine ⟨fun hnil => absurd ?_ hall, fun j hj => ?_⟩
        · -- nothing may come up: then all has
          have hall' : ∀ n k, k < n → k < m → listed.getD k false = true := by
            intro n
            induction n with
            | zero => intro k hk; omega
            | succ n ihn =>
              intro k hk hs
              by_cases hl : listed.getD k false = true
              · exact hl
              · exfalso
                have hks : k < ops.size := by omega
                have hkl : k < listed.size := by rw [hM.len]; exact hks
                have hmem : k ∈ Region.ready .any ops listed := mem_ready.2 ⟨by simpa [hkl] using hl, _, Array.getElem?_eq_getElem hks, fun e he hb => by
                  have hlt := (seqOk_spec hok (Array.getElem?_eq_getElem hks)).2.1 e he hb
                  exact ihn e.on (by omega) (by omega)⟩
                rw [hnil] at hmem
                cases hmem
          exact fun k hk => hall' _ k (Nat.lt_succ_self k) hk
        · obtain ⟨hjun, o, ho, hedges⟩ := mem_ready.1 hj
          have hjs : j < ops.size := (Array.getElem?_eq_some_iff.1 ho).1
          have hjl : j < listed.size := by rw [hM.len]; exact hjs
          have hjun' : listed.getD j false = false := by simpa [hjl] using hjun
          have hmet : AllMet ops listed j := fun o' ho' e he hb => by
            rw [ho] at ho'
            cases ho'
            exact hedges e he hb
          have hjm : j < m := by
            refine Nat.lt_of_not_le fun hle => hall fun k hk => ?_
            exact met_bit hM.closed k (j + 1) j (by omega) hjs hmet (tailOk_spec ht hjs hle (by omega))
          have hag : Agree ops o (A vv j) b := by
            refine ⟨by rw [hM.size, (asz vv j (by omega)).1], fun t ht => ?_⟩
            by_cases hx : ∃ (i : Nat) (oi : Oper), ops[i]? = some oi ∧ oi.dst = some t
            · obtain ⟨i, oi, hi, hti⟩ := hx
              by_cases hij : i = j
              · rw [hM.left t (fun k ok hk hlk htk => by
                  have : k = i := unlike k i ok oi t hk hi htk hti
                  rw [this, hij, hjun'] at hlk
                  cases hlk), far vv 0 t j (by omega) (by omega) (fun k ok _ hk hok' htk => by
                  have : k = i := unlike k i ok oi t hok' hi htk hti
                  omega), hA0 vv]
              · rcases ((seqOk_spec hok ho).2.2 i oi hi hij t hti).2 ht with ⟨hlt, hbit⟩ | ⟨hlt, hbit⟩
                · have hli := met_bit hM.closed i (j + 1) j (by omega) hjs hmet hbit
                  rw [hM.done i oi t hi hli hti]
                  exact far vv j t m (by omega) (Nat.le_refl _) (fun k ok hk _ hok' htk => by
                    have : k = i := unlike k i ok oi t hok' hi htk hti
                    omega)
                · have hun : listed.getD i false ≠ true := fun hli => by
                    have his : i < ops.size := (Array.getElem?_eq_some_iff.1 hi).1
                    have := met_bit hM.closed j (i + 1) i (by omega) his (hM.closed i hli) hbit
                    rw [hjun'] at this
                    cases this
                  rw [hM.left t (fun k ok hk hlk htk => by
                    have : k = i := unlike k i ok oi t hk hi htk hti
                    rw [this] at hlk
                    exact hun hlk), far vv 0 t j (by omega) (by omega) (fun k ok _ hk hok' htk => by
                    have : k = i := unlike k i ok oi t hok' hi htk hti
                    omega), hA0 vv]
            · rw [hM.left t (fun k ok hk _ htk => hx ⟨k, ok, hk, htk⟩), far vv 0 t j (by omega) (by omega) (fun k ok _ _ hk htk => hx ⟨k, ok, hk, htk⟩), hA0 vv]
          cases hjF : F j with
          | true =>
            have hM' : ∀ u, Midway ops a (A (updV vv j (u)) m) (listed.setIfInBounds j true) (b.put o.dst (u)) := by
              intro u
              refine ⟨by rw [put_size, hM.size], by rw [put_defs, hM.defers], by rw [Array.size_setIfInBounds, hM.len], fun y hy => ?_, fun k ok t hk hlk htk => ?_, fun t hno => ?_⟩
              · intro oy hoy e he hb
                by_cases hyj : j = y
                · subst hyj
                  exact getD_set_true (hmet oy hoy e he hb)
                · rw [getD_set_ne false hyj] at hy
                  exact getD_set_true (hM.closed y hy oy hoy e he hb)
              · by_cases hkj : j = k
                · subst hkj
                  rw [ho] at hk
                  cases hk
                  rw [far (updV vv j (u)) (j + 1) t m (by omega) (Nat.le_refl _) (fun i oi hi _ hoi hti => by
                    have : i = j := unlike i j oi o t hoi ho hti htk
                    omega), hAF j o _ hjm ho hjF, htk, updV_same]
                  exact put_at (by rw [(asz (updV vv j (u)) j (by omega)).1, hM.size])
                · rw [getD_set_ne false hkj] at hlk
                  rw [put_ne (fun e => hkj (unlike j k o ok t ho hk e htk)), hM.done k ok t hk hlk htk]
                  exact (same vv j _ listed k ok t hk (hin k hlk) (fun e => hkj e.symm) (fun o' ho' e he hb => hM.closed k hlk o' ho' e he hb) hjun' htk).symm
              · have hjt : o.dst ≠ some t := hno j o ho (by simp [hjl])
                rw [put_ne hjt]
                refine hM.left t (fun k ok hk hlk => hno k ok hk ?_)
                exact getD_set_true hlk
            unfold wpOp
            simp only [ho]
            refine hAR j o hjm ho hjF vv listed b w _ Q hag hM.len hjun' hmet hw (fun u w' hw' => ih _ _ w' ?_ ⟨_, hM' u, hw'⟩ (fun k hk => ?_))
            · have := count_lt (p := fun k => !listed.getD k true) (q := fun k => !(listed.setIfInBounds j true).getD k true) (fun k hk => by
                by_cases hkj : j = k
                · subst hkj; simp [hjun]
                · rw [getD_set_ne true hkj] at hk; exact hk) (j := j) (by simp [hjun]) (by simp [hjl]) (List.mem_range.2 hjm)
              omega
            · by_cases hkj : j = k
              · omega
              · rw [getD_set_ne false hkj] at hk
                exact hin k hk
          | false =>
            obtain ⟨u, -, hAv⟩ := hA' j o hjm ho hjF
            obtain ⟨hv, step⟩ := hAv vv
            generalize u vv = v at hv step
            have hM' : Midway ops a (A vv m) (listed.setIfInBounds j true) (b.put o.dst v) := by
              refine ⟨by rw [put_size, hM.size], by rw [put_defs, hM.defers], by rw [Array.size_setIfInBounds, hM.len], fun y hy => ?_, fun k ok t hk hlk htk => ?_, fun t hno => ?_⟩
              · intro oy hoy e he hb
                by_cases hyj : j = y
                · subst hyj
                  exact getD_set_true (hmet oy hoy e he hb)
                · rw [getD_set_ne false hyj] at hy
                  exact getD_set_true (hM.closed y hy oy hoy e he hb)
              · by_cases hkj : j = k
                · subst hkj
                  rw [ho] at hk
                  cases hk
                  rw [htk, put_at (b := A vv j) (by rw [hM.size, (asz vv j (by omega)).1]), ← htk, ← hv]
                  exact (far vv (j + 1) t m (by omega) (Nat.le_refl _) (fun i oi hi _ hoi hti => by
                    have : i = j := unlike i j oi o t hoi ho hti htk
                    omega)).symm
                · rw [getD_set_ne false hkj] at hlk
                  rw [put_ne (fun e => hkj (unlike j k o ok t ho hk e htk))]
                  exact hM.done k ok t hk hlk htk
              · have hjt : o.dst ≠ some t := hno j o ho (by simp [hjl])
                rw [put_ne hjt]
                refine hM.left t (fun k ok hk hlk => hno k ok hk ?_)
                exact getD_set_true hlk
            unfold wpOp
            simp only [ho]
            refine step listed b w _ Q hag hM.len hjun' hmet hw (fun w' hw' => ih _ _ w' ?_ ⟨vv, hM', hw'⟩ (fun k hk => ?_))
            · have := count_lt (p := fun k => !listed.getD k true) (q := fun k => !(listed.setIfInBounds j true).getD k true) (fun k hk => by
                by_cases hkj : j = k
                · subst hkj; simp [hjun]
                · rw [getD_set_ne true hkj] at hk; exact hk) (j := j) (by simp [hjun]) (by simp [hjl]) (List.mem_range.2 hjm)
              omega
            · by_cases hkj : j = k
              · omega
              · rw [getD_set_ne false hkj] at hk
                exact hin k hk
  refine wp_region_any hm (main ops.size _ a w.drew ?_ ⟨v0, ?_, hS⟩ ?_)
  · have := List.length_filter_le (fun k => !(Array.replicate ops.size false).getD k true) (List.range m)
    simp only [List.length_range] at this
    omega
  · refine ⟨rfl, rfl, by simp, fun y hy => ?_, fun k o t ho hk _ => ?_, fun t _ => rfl⟩
    · simp [Array.getElem?_replicate] at hy
      split at hy <;> simp at hy
    · simp [Array.getElem?_replicate] at hk
      split at hk <;> simp at hk
  · intro k hk
    simp [Array.getElem?_replicate] at hk
    split at hk <;> simp at hk
theorem walkedE_cons {F : Nat → Bool} {n j : Nat} {Qf : (Nat → Value) → Act → Prop} {o : Oper} {r : List Oper} {a : (Nat → Value) → Act} (u : Value) (hj : F j = false) (hg : ∀ v, GivesM P ops (S v) n j o (a v) ((a v).put o.dst u)) (hr : WalkedE P ops S F n Qf r (j + 1) (fun v => (a v).put o.dst u)) : WalkedE P ops S F n Qf (o :: r) j a := .inr ⟨hj, fun _ => u, fun _ _ _ _ _ _ => rfl, hg, hr⟩
/-- A call whose answer is not fixed. -/
theorem walkedE_call {F : Nat → Bool} {n j : Nat} {Qf : (Nat → Value) → Act → Prop} {o : Oper} {r : List Oper} {a : (Nat → Value) → Act} (f : FuncId) (args : Array Value) (hj : F j = true) (hgd : o.guard = none) (hs : ∀ cs c, o.op ≠ .select cs c)
    (hrun : ∀ v x, (execOp (a v).eval o).run P x = .ok (.enter f args) x)
    (hc : ∀ (v : Nat → Value) (l : Array Bool) (x : World), l.size = n → l.getD j false = false → AllMet ops l j → S v l x → Calls P f args x (fun e y => ∃ u, e = .returned u ∧ S (updV v j u) (l.setIfInBounds j true) y))
    (hr : WalkedE P ops S F n Qf r (j + 1) (fun v => (a v).put o.dst (v j))) : WalkedE P ops S F n Qf (o :: r) j a :=
  .inl ⟨hj, fun v l b x K Q hb hz hn hm hS hK => by
    have hw : Region.wanted o (yielded ops b.tmps) = true := by unfold Region.wanted; rw [hgd]
    rw [if_pos hw]
    refine .inl ?_
    unfold Oper.wp
    rw [agree_eval hb hs, hrun]
    simp only [Oper.upon]
    refine Calls.mono (hc v l x hz hn hm hS) ?_
    rintro e y ⟨u, rfl, hy⟩
    exact hK u y hy, hr⟩
/-- An allocation. -/
theorem walkedE_alloc {F : Nat → Bool} {n j : Nat} {Qf : (Nat → Value) → Act → Prop} {o : Oper} {r : List Oper} {a : (Nat → Value) → Act} (C : Obj) (hj : F j = true) (hgd : o.guard = none)
    (hrun : ∀ (b : Act) (x : World), (execOp b.eval o).run P x = .ok (.value (.pointer (some ⟨x.heap.size, 0, none⟩))) (x.alloc C))
    (hc : ∀ (v : Nat → Value) (l : Array Bool) (x : World), l.size = n → l.getD j false = false → AllMet ops l j → S v l x → S (updV v j (.pointer (some ⟨x.heap.size, 0, none⟩))) (l.setIfInBounds j true) (x.alloc C))
    (hr : WalkedE P ops S F n Qf r (j + 1) (fun v => (a v).put o.dst (v j))) : WalkedE P ops S F n Qf (o :: r) j a :=
  .inl ⟨hj, fun v l b x K Q hb hz hn hm hS hK => by
    have hw : Region.wanted o (yielded ops b.tmps) = true := by unfold Region.wanted; rw [hgd]
    rw [if_pos hw]
    refine .inl ?_
    unfold Oper.wp
    rw [hrun]
    exact hK _ _ (hc v l x hz hn hm hS), hr⟩
theorem walkedE_nil {F : Nat → Bool} {n j : Nat} {Qf : (Nat → Value) → Act → Prop} {a : (Nat → Value) → Act} (h : ∀ v, Qf v (a v)) : WalkedE P ops S F n Qf [] j a := h
end
end
end Go.Proofs.Ytlbehhbicmmdoaa
namespace Go.Proofs.Ytlbehhbicmmdoaa
set_option linter.unusedVariables false
set_option linter.unusedSimpArgs false
open Go.RowKit
theorem docWalk_calls {w : World} {dm : Nat} {pgs : Nat → List Nat} {wd : Nat → Nat} (hD : DocM w dm 40 pgs) (hw : ∀ a, okM 40 a = true → getN (pgs (a / 4096)) (a % 4096) 8 = wd a) (hraw : ∀ a, rawM 40 wd a < 18446744073709551616) (two root va : Nat) (htwo : two < 18446744073709551616) (hroot : root < 18446744073709551616) (hva : va < 18446744073709551616) (on : Bool) (access : Int) : 
    Calls Try.prog 37 #[.pointer (some ⟨dm, 0, none⟩), .int .u64 (two : Nat), .bool on, .int .u64 (root : Nat), .int .u64 (va : Nat), .int .i64 access] w (RetDoc w (nestN (rawM 40 wd) (okM 40) two on root va access)) := by
  by_cases hi : 281474976710656 ≤ va
  · exact docWalk_size hD hw hraw two root va htwo hroot hva on access hi
  · cases on with
    | false => exact docWalk_off hD hw hraw two root va htwo hroot hva access hi
    | true =>
      by_cases hr : root % 4096 ≠ 0 ∨ 1099511627776 ≤ root
      · exact docWalk_root hD hw hraw two root va htwo hroot hva access hi hr
      · by_cases h1 : (walkN (raw1N (rawM 40 wd) (okM 40) two) (ok1N (rawM 40 wd) (okM 40) two) 1 va 4 0 root).2 = -1
        · exact docWalk_bad hD hw hraw two root va htwo hroot hva access hi hr h1
        · by_cases h0 : (walkN (raw1N (rawM 40 wd) (okM 40) two) (ok1N (rawM 40 wd) (okM 40) two) 1 va 4 0 root).2 = 0
          · cases ha : allowsB (lastN (walkN (raw1N (rawM 40 wd) (okM 40) two) (ok1N (rawM 40 wd) (okM 40) two) 1 va 4 0 root).1).d.r (lastN (walkN (raw1N (rawM 40 wd) (okM 40) two) (ok1N (rawM 40 wd) (okM 40) two) 1 va 4 0 root).1).d.w (lastN (walkN (raw1N (rawM 40 wd) (okM 40) two) (ok1N (rawM 40 wd) (okM 40) two) 1 va 4 0 root).1).d.x access with
            | false => exact docWalk_deny hD hw hraw two root va htwo hroot hva access hi hr ⟨h0, ha⟩
            | true => exact docWalk_let hD hw hraw two root va htwo hroot hva access hi hr ⟨h0, ha⟩
          · exact docWalk_kind hD hw hraw two root va htwo hroot hva access hi hr ⟨h1, h0⟩
theorem docM_put {x : World} {dm r : Nat} {pgs : Nat → List Nat} {C : Array Value} {t : TypeId} {o : Obj} (h : DocM x dm 40 pgs) (hr : x.heap[r]? = some (.cells C t)) (hC : C[0]? = some (.int .i64 0)) : DocM (putB x r o) dm 40 pgs := by
  obtain ⟨g, c, h1, h2, h3, h4, h5⟩ := h
  have hne : ∀ (b : Nat) (v : Value), x.cell? ⟨b, 0, none⟩ = some v → v ≠ .int .i64 0 → r ≠ b := fun b v hv hn e => by
    subst e
    rw [cell_of hr, hC] at hv
    exact hn (Option.some.inj hv).symm
  have n1 : r ≠ dm := hne dm _ (cell_of h1 0) (by intro e; cases e)
  obtain ⟨g0, c0, e0, -⟩ := h5 0 (by decide)
  have n2 : r ≠ g := hne g _ e0 (by intro e; cases e)
  refine ⟨g, c, by rw [putB_other _ n1]; exact h1, by rw [putB_size]; exact h2, h3, h4, fun i hi => ?_⟩
  obtain ⟨gi, ci, a, b, d⟩ := h5 i hi
  obtain ⟨x0, hx0⟩ : ∃ x0, (pgs i)[0]? = some x0 := ⟨_, List.getElem?_eq_getElem (by omega)⟩
  obtain ⟨-, bb, off, e1, -, e2⟩ := b.2.2.2 0 x0 hx0
  obtain ⟨rfl, rfl⟩ : gi = bb ∧ 0 = off := by injection e1 with e1; injection e1 with e1 e2; exact ⟨e1, e2⟩
  have n3 : r ≠ gi := hne gi _ e2 (by intro e; cases e)
  refine ⟨gi, ci, by rw [putB_cell_other _ _ n2]; exact a, ⟨b.1, b.2.1, b.2.2.1, fun k y hy => ?_⟩, d⟩
  obtain ⟨q1, bb, off, q2, q3, q4⟩ := b.2.2.2 k y hy
  obtain ⟨rfl, rfl⟩ : gi = bb ∧ 0 = off := by injection q2 with q2; injection q2 with q2 q5; exact ⟨q2, q5⟩
  exact ⟨q1, gi, 0, rfl, by rw [putB_size]; exact q3, by rw [putB_cell_other _ _ n3]; exact q4⟩
abbrev frDo (Q : Array Value) : FrE := ⟨15, 17, #[Value.int .i64 0, .int .u64 0, .bool false, .bool false, .bool false, .bool false, .bool false, .bool false], Q, 77⟩
abbrev frDf (Q : Array Value) : FrE := ⟨16, 18, #[Value.int .i64 0, .int .i64 0, .int .i64 0, .int .u64 0, .bool false], Q, 67⟩
theorem freeC_two (x : World) (Q1 Q2 : Array Value) : FreeC 20 10 x (fun _ => True) (fun _ => True) (fun _ => False) [frDo Q1, frDf Q2] :=
  { old := fun _ f => f.elim, k0 := fun _ _ _ _ => trivial, k1 := fun _ _ _ _ => trivial, JA := by simp, JB := by simp, AB := by simp, BB := by simp, AN := by simp, one := by simp, JN := by decide }
theorem freeM_drew {J : Nat} {x0 : World} {G : Nat → Prop} {L : List FrE} {v : Nat → Value} {n : Nat} (h : FreeM J x0 (fun _ => True) (fun _ => True) G L v (Array.replicate n false) x0) : FreeM J x0 (fun _ => True) (fun _ => True) G L v (Array.replicate n false) x0.drew :=
  { mem := by cases (Array.replicate n false).getD J false <;> exact trivial, only := h.only.drew, blk := fun e he ha => h.blk e he ha, ord := h.ord, ne := h.ne }
theorem freeM_upd {J : Nat} {x0 x : World} {M0 M1 : World → Prop} {G : Nat → Prop} {L : List FrE} {v : Nat → Value} {l : Array Bool} (j : Nat) (u : Value) (hL : ∀ e ∈ L, e.A ≠ j) (h : FreeM J x0 M0 M1 G L v l x) : FreeM J x0 M0 M1 G L (updV v j u) l x :=
  { mem := h.mem, only := h.only, ord := h.ord, blk := fun e he ha => by rw [updV_ne _ (hL e he)]; exact h.blk e he ha, ne := fun e he e' he' hn ha ha' => by rw [updV_ne _ (hL e he), updV_ne _ (hL e' he')]; exact h.ne e he e' he' hn ha ha' }
set_option maxHeartbeats 16000000 in
set_option maxRecDepth 100000 in
theorem nestedWalks_walk (ad : Option Addr) (l : List Ed) (cap : Nat) (on : Bool) (ri : Int) (hr0 : (Lit.int .u64 ri).wf = true) (vi : Int) (hv0 : (Lit.int .u64 vi).wf = true) (ac : Int) (_ : (Lit.int .i64 ac).wf = true) (w : World) (hN : l.length ≤ maxLen) (hE : Edits w ad l) :
    Calls Try.prog 12 #[.slice ad l.length cap, .bool on, .int .u64 ri, .int .u64 vi, .int .i64 ac] w (RetB w (.bool true)) := by
  obtain ⟨root, rfl, hroot⟩ := wf_u64 hr0
  obtain ⟨va, rfl, hva⟩ := wf_u64 hv0
  have hw := world14_calls w ad l cap hN hE
  obtain ⟨A1, hA1⟩ : ∃ A1 : Nat, A1 = va % 131072 := ⟨_, rfl⟩
  have hA1i : (va : Int) % 131072 = (A1 : Int) := by rw [hA1]; rfl
  obtain ⟨A2, hA2⟩ : ∃ A2 : Nat, A2 = va % 281474976710656 := ⟨_, rfl⟩
  have hA2i : (va : Int) % 281474976710656 = (A2 : Int) := by rw [hA2]; rfl
  obtain ⟨M, hM64, hM⟩ := u64_and_some (root : Int) 28672
  obtain ⟨M3, r, k1, k2, k3, k4, k6, k7, k8⟩ := access_of ac
  have HU := Lib.hid (And.intro hroot (And.intro hva (And.intro (show A1 < 18446744073709551616 by omega) (And.intro (show A2 < 18446744073709551616 by omega) hM64))))
  have HK := Lib.hid (And.intro k1 (And.intro k3 (And.intro k4 (And.intro k6 (And.intro k7 k8)))))
  have HA := Lib.hid (And.intro hA1i (And.intro hA2i hM))
  clear hr0 hv0 hN hE hroot hva hA1 hA2 hM64 k1 k2 k3 k4 k6 k7 k8 hA1i hA2i hM
  go_enter Try.func12, Try.ntmps12
  go_wp2_with fail
  (with_reducible refine hw.mono ?_)
  rintro e x1 ⟨p, mb, wd, rfl, hS, -⟩
  have HS := Lib.hid (memS_less (memS_of hS) (B' := fun _ => False) (fun _ f => f.elim))
  clear hw hS
  go_wp2
  refine wp_loopF [false, false, false, false, false, false, false, false, false, false, true, false, false, true, true, true, true, true, true, true, true, true, true, false, false, false, false, false, false, false, true, true, true, true, true, true, true, true, true, true, true, true, true, true, true, true, true, true, true, true, true, true, true, true, true, true, true, true, true, true, true, true, true, true, true, true, true, true, true, true, true, true, true, true, true, true, true, true, true, true, true, true, true, true, true, true, true, true, true, true, true, true, true, true, true, true] (fun f wx => ∃ (z : Int) (N : Nat), f 13 = .int .i64 z ∧ (z = 0 ∨ z = 1 ∨ z = 2 ∨ z = 3 ∨ z = 4) ∧ N = 100 + 24 * z.toNat ∧ MemS w p wd N (fun _ => False) wx) (fun f => 4 - (intOf (f 13)).toNat) ?start0 ?round0
  case start0 => exact ⟨0, _, rfl, .inl rfl, rfl, HS.out⟩
  case round0 =>
    intro f2 wq hrel J2 K2 hJ2 hM2
    dsimp only [mergeA, mergeL, Nat.reduceAdd]
    obtain ⟨z, N, h13, hz, hNz, hm⟩ := hrel
    rw [h13]
    have H13 := Lib.hid (And.intro h13 hNz)
    have HM := Lib.hid hm
    clear h13 hm HS hNz
    by_cases hz4 : z = 4
    · subst hz4
      clear hz
      have ht := told14_calls wq
      go_wp2_with fail
      (with_reducible refine ht.mono ?_)
      rintro e y7 ⟨rfl, hO7⟩
      have HO7 := Lib.hid hO7
      clear ht hO7
      go_wp2
      go_ret
      exact ⟨rfl, old_then (memS_word HM.out) HO7.out⟩
    have hz2 : z = 0 ∨ z = 1 ∨ z = 2 ∨ z = 3 := by omega
    have hzlt : z < 4 := by omega
    have hz0 : 0 ≤ z := by omega
    have HZ := Lib.hid hz2
    clear hz hz4 hz2
    go_upto_region 7 with (fail)
    refine wp_cutF [false, false, false, false, false, false, false, false, false, false, false, false, false, false, true, false, false, false, false, false, false, false, false, false, false, false, false, false, false, false, false, false, false, false, true, true, true, true, true, true, true, true, true, true, true, true, true] (fun f wx => ∃ (V1 : Bool) (rt vb : Nat), rt < 18446744073709551616 ∧ f 14 = .pointer (some ⟨vb, 0, none⟩) ∧ wx.heap[vb]? = some (.cells #[.int .u64 4096, .bool V1, .int .u64 (rt : Nat)] 71) ∧ Old wq wx ∧ wq.heap.size ≤ vb) ?rest1 ?first1
    case first1 =>
      intro J1 K1 hJ1 hM1
      obtain ⟨ha1, ha2, ha3⟩ := HA.out
      rcases HZ.out with h | h | h | h
      · subst h
        cases on
        all_goals
          go_wp2
          refine Met.intro (hJ1 _ _ (by kernel_rfl) ?_)
          exact ⟨_, root, _, HU.out.1, rfl, alloc_heap_new _ _ _ (by rw [World.size_alloc]), (by first | exact old_alloc (old_alloc (old_refl _) _) _ | exact old_alloc (old_drew (old_alloc (old_refl _) _)) _), Nat.le_succ _⟩
      · subst h
        cases on
        all_goals
          go_wp2
          refine Met.intro (hJ1 _ _ (by kernel_rfl) ?_)
          exact ⟨_, M, _, HU.out.2.2.2.2, rfl, alloc_heap_new _ _ _ (by rw [World.size_alloc]), (by first | exact old_alloc (old_alloc (old_refl _) _) _ | exact old_alloc (old_drew (old_alloc (old_refl _) _)) _), Nat.le_succ _⟩
      · subst h
        cases on
        all_goals
          go_wp2
          refine Met.intro (hJ1 _ _ (by kernel_rfl) ?_)
          exact ⟨_, 0, _, (by decide), rfl, alloc_heap_new _ _ _ (by rw [World.size_alloc]), (by first | exact old_alloc (old_alloc (old_refl _) _) _ | exact old_alloc (old_drew (old_alloc (old_refl _) _)) _), Nat.le_succ _⟩
      · subst h
        cases on
        all_goals
          go_wp2
          refine Met.intro (hJ1 _ _ (by kernel_rfl) ?_)
          exact ⟨_, 0, _, (by decide), rfl, alloc_heap_new _ _ _ (by rw [World.size_alloc]), (by first | exact old_alloc (old_alloc (old_refl _) _) _ | exact old_alloc (old_drew (old_alloc (old_refl _) _)) _), Nat.le_succ _⟩
    case rest1 =>
    intro f3 x3 hcut
    dsimp only [mergeA, mergeL, Nat.reduceAdd]
    obtain ⟨V1, rt, vb, hrt, h14, hvb, hO, hvq⟩ := hcut
    rw [h14]
    have HO3 := Lib.hid (And.intro hO (And.intro hvb hrt))
    have HVQ := Lib.hid hvq
    clear h14 hO hvb hrt hvq
    go_upto_region 8 with (fail)
    refine wp_cutF [false, false, false, false, false, false, false, false, false, false, false, false, false, false, false, true, false, false, false, false, false, false, false, false, false, false, false, false, false, false, false, false, false, false, false, false, false, false, false, false, false, false, false, false, false, false, false, true, true, true, true, true, true, true, true, true, true] (fun f wx => ∃ (at_ : Nat), at_ < 18446744073709551616 ∧ f 15 = .int .u64 (at_ : Nat) ∧ Old x3 wx) ?rest2 ?first2
    case first2 =>
      intro J1 K1 hJ1 hM1
      obtain ⟨ha1, ha2, ha3⟩ := HA.out
      rcases HZ.out with h | h | h | h
      · subst h
        go_wp2
        exact Met.intro (hJ1 _ _ (by kernel_rfl) ⟨va, HU.out.2.1, rfl, by first | exact old_alloc (old_refl _) _ | exact old_drew (old_alloc (old_refl _) _)⟩)
      · subst h
        go_wp2
        exact Met.intro (hJ1 _ _ (by kernel_rfl) ⟨va, HU.out.2.1, rfl, by first | exact old_alloc (old_refl _) _ | exact old_drew (old_alloc (old_refl _) _)⟩)
      · subst h
        go_wp2
        exact Met.intro (hJ1 _ _ (by kernel_rfl) ⟨A1, HU.out.2.2.1, rfl, by first | exact old_alloc (old_refl _) _ | exact old_drew (old_alloc (old_refl _) _)⟩)
      · subst h
        go_wp2
        exact Met.intro (hJ1 _ _ (by kernel_rfl) ⟨A2, HU.out.2.2.2.1, rfl, by first | exact old_alloc (old_refl _) _ | exact old_drew (old_alloc (old_refl _) _)⟩)
    case rest2 =>
    intro f4 x4 hcut
    dsimp only [mergeA, mergeL, Nat.reduceAdd]
    obtain ⟨at_, hat, h15, hO⟩ := hcut
    rw [h15]
    have HO4 := Lib.hid (And.intro (old_then HO3.out.1 hO) (And.intro (keep_old hO HO3.out.2.1) (And.intro HO3.out.2.2 hat)))
    clear h15 hO hat HO3
    go_upto_region 9 with (fail)
    go_upto_if 59 with (fail)
    refine wp_cutF [false, false, false, false, false, false, false, false, false, false, false, false, false, false, false, false, true, false, false, false, false, false, false, false, false, false, false, false, false, false, false, false, false, false, false, false, false, false, false, false, false, false, false, false, false, false, false, false, false, false, false, false, false, false, false, false, false, true, true, true, true, true, true, true] (fun f wx => ∃ (k : Int), f 16 = .int .i64 k ∧ wx = x4) ?rest3 ?first3
    case first3 =>
      intro J1 K1 hJ1 hM1
      obtain ⟨k1, k3, k4, -, k7, k8⟩ := HK.out
      by_cases hz1 : 1 < z
      · go_wp2
        exact Met.intro (hJ1 _ _ (by kernel_rfl) ⟨_, rfl, rfl⟩)
      · have hz1' : z ≤ 1 := by omega
        clear hz1
        go_wp2
        exact Met.intro (hJ1 _ _ (by kernel_rfl) ⟨_, rfl, rfl⟩)
    case rest3 =>
    intro f5 x5 hcut
    dsimp only [mergeA, mergeL, Nat.reduceAdd]
    obtain ⟨k, h16, rfl⟩ := hcut
    rw [h16]
    clear h16
    have hmv : MemS w p wd N (fun b => b = vb) x5 := memS_new HM.out HO4.out.1 (fun b hb => .inr (by rw [hb]; exact HVQ.out))
    have hc : Calls Try.prog 30 #[.pointer (some ⟨p, 0, none⟩), .agg #[.int .u64 4096, .bool V1, .int .u64 (rt : Nat)], .int .u64 (at_ : Nat), .int .i64 k] x5 (RetW w p wd (N + 24) (fun b => b = vb) x5 (nestN (rawM 40 wd) (okM 40) 4096 V1 rt at_ k)) := memS_walk hmv (by have := H13.out.2; have := HZ.out; omega) 4096 rt at_ V1 (by decide) HO4.out.2.2.1 HO4.out.2.2.2 k
    have hraw := memS_raw HM.out
    obtain ⟨q, hq⟩ : ∃ q, nestN (rawM 40 wd) (okM 40) 4096 V1 rt at_ k = q := ⟨_, rfl⟩
    rw [hq] at hc
    obtain ⟨⟨ofr, oip, o1, o2, o3, o4, o5, o6⟩, ⟨fst, fk, flv, fad, fsto⟩, nq⟩ := q
    have HQ := Lib.hid (And.intro hq hraw)
    have HVB := Lib.hid HO4.out.2.1
    obtain ⟨v1, -, -⟩ := of_block HO4.out.2.1
    clear hq hraw hmv
    go_wp2_with fail
    (with_reducible refine hc.mono ?_)
    rintro e y1 ⟨rfl, hm, hkk, hsz⟩
    have hvb1 := hkk vb _ rfl HVB.out
    have HM1 := Lib.hid (And.intro (memS_less hm (B' := fun _ => False) (fun _ f => f.elim)) hvb1)
    clear hc hm hkk hsz v1 hvb1
    dsimp only [O8.cells, F5.cells]
    obtain ⟨Y1, hY1, hOY1, hob1, hfb1, hsY1, i1, i2⟩ := pair_new y1 #[Value.int .i64 0, .int .u64 0, .bool false, .bool false, .bool false, .bool false, .bool false, .bool false] #[Value.int .i64 0, .int .i64 0, .int .i64 0, .int .u64 0, .bool false] #[Value.int .i64 (ofr : Nat), .int .u64 (oip : Nat), .bool o1, .bool o2, .bool o3, .bool o4, .bool o5, .bool o6] #[Value.int .i64 fst, .int .i64 fk, .int .i64 flv, .int .u64 (fad : Nat), .bool fsto] 65 67
    have HY1 := Lib.hid (And.intro hOY1 (And.intro hob1 (And.intro hfb1 hsY1)))
    have HEY1 := Lib.hid hY1
    have I1Y1 := Lib.hid i1
    have I2Y1 := Lib.hid i2
    clear hY1 hOY1 hob1 hfb1 hsY1 i1 i2
    go_upto_region 13 with (first | (refine wpList_store_whole rfl 65 _ _ rfl y1.heap.size [Value.int .i64 (ofr : Nat), .int .u64 (oip : Nat), .bool o1, .bool o2, .bool o3, .bool o4, .bool o5, .bool o6] rfl rfl 65 _ I1Y1.out (by kernel_rfl) rfl (by intro v hv; simp only [List.mem_cons, List.not_mem_nil, or_false] at hv; rcases hv with rfl | rfl | rfl | rfl | rfl | rfl | rfl | rfl <;> rfl) ?_) | (refine wpList_store_whole rfl 67 _ _ rfl (y1.heap.size + 1) [Value.int .i64 fst, .int .i64 fk, .int .i64 flv, .int .u64 (fad : Nat), .bool fsto] rfl rfl 67 _ I2Y1.out (by kernel_rfl) rfl (by intro v hv; simp only [List.mem_cons, List.not_mem_nil, or_false] at hv; rcases hv with rfl | rfl | rfl | rfl | rfl <;> rfl) ?_))
    rw [← HEY1.out]
    clear HEY1 I1Y1 I2Y1
    obtain ⟨fb1, hfb1⟩ : ∃ fb1, fb1 = y1.heap.size + 1 := ⟨_, rfl⟩
    obtain ⟨ob1, hob1⟩ : ∃ ob1, ob1 = y1.heap.size := ⟨_, rfl⟩
    rw [← hfb1, ← hob1]
    rw [← hfb1, ← hob1] at HY1
    have HBY1 := Lib.hid (And.intro hob1 hfb1)
    clear hfb1 hob1
    have hmY := memS_old HM1.out.1 HY1.out.1
    have hvbY := keep_old HY1.out.1 HM1.out.2
    have HMY := Lib.hid (And.intro hmY (And.intro hvbY (lt_of_block hvbY)))
    clear hmY hvbY
    obtain ⟨SS, hSS⟩ : ∃ SS : (Nat → Value) → Array Bool → World → Prop, SS = (fun v l x => FreeM 10 Y1 (fun _ => True) (fun _ => True) (fun _ => False) [frDo #[Value.int .i64 (ofr : Nat), .int .u64 (oip : Nat), .bool o1, .bool o2, .bool o3, .bool o4, .bool o5, .bool o6], frDf #[Value.int .i64 fst, .int .i64 fk, .int .i64 flv, .int .u64 (fad : Nat), .bool fsto]] v l x ∧ (l.getD 1 false = true → ∃ dm pgs, v 1 = .pointer (some ⟨dm, 0, none⟩) ∧ DocM x dm 40 pgs ∧ ∀ a, okM 40 a = true → getN (pgs (a / 4096)) (a % 4096) 8 = wd a)) := ⟨_, rfl⟩
    have HSS := Lib.hid hSS
    clear hSS
    have HFC : Hid (FreeC 20 10 Y1 (fun _ => True) (fun _ => True) (fun _ => False) [frDo #[Value.int .i64 (ofr : Nat), .int .u64 (oip : Nat), .bool o1, .bool o2, .bool o3, .bool o4, .bool o5, .bool o6], frDf #[Value.int .i64 fst, .int .i64 fk, .int .i64 flv, .int .u64 (fad : Nat), .bool fsto]]) := Lib.hid (freeC_two _ _ _)
    refine wp_region_freesE (S := SS) (fun j => j == 1 || (j == 15 || j == 16)) 20 (by kernel_rfl) (by kernel_rfl) (by kernel_rfl) (by decide) (fun _ => undef) (by rw [HSS.out]; exact ⟨freeM_drew (freeM_start trivial), fun h => (by simp at h)⟩) ?_
    refine walkedE_cons (.pointer (some ⟨p, 0, none⟩)) rfl (fun v => ?_) ?_
    · intro l9 wS hz hn hm hS
      rw [HSS.out] at hS
      have hS9 : SS v (l9.setIfInBounds 0 true) wS := by
        rw [HSS.out]
        exact ⟨freeM_other 0 (by decide) (by simp) hS.1, fun h1 => by
          rw [getD_set_ne false (by decide)] at h1
          exact hS.2 h1⟩
      obtain ⟨k9, -, -⟩ := of_block (freeM_block hS.1 HMY.out.2.2 (fun f => f) HMY.out.2.1)
      clear hS hm
      go_wp2
      exact ⟨rfl, by kernel_rfl, hS9⟩
    (try simp only [Act.put, List.setIfInBounds_toArray, List.set_cons_succ, List.set_cons_zero])
    refine walkedE_call 35 #[.pointer (some ⟨p, 0, none⟩)] rfl rfl (by intro cs c h; cases h) (fun v x => by kernel_rfl) (fun v l9 x hz hn hm hS => ?_) ?_
    · rw [HSS.out] at hS
      have hO := Only.to_below hS.1.only
      refine (memS_read (memS_old HMY.out.1 hO)).mono ?_
      rintro e y9 ⟨dm, pgs, rfl, hY, hD, hwd⟩
      refine ⟨_, rfl, ?_⟩
      rw [HSS.out]
      exact ⟨freeM_upd 1 _ (by simp) (freeM_quiet 1 (by decide) (by simp) HFC.out hS.1 hY (fun _ => trivial) (fun _ => trivial)), fun _ => ⟨dm, pgs, updV_same _ _ _, hD, hwd⟩⟩
    (try simp only [Act.put, List.setIfInBounds_toArray, List.set_cons_succ, List.set_cons_zero])
    refine walkedE_cons (.pointer (some ⟨vb, 0, none⟩)) rfl (fun v => ?_) ?_
    · intro l9 wS hz hn hm hS
      rw [HSS.out] at hS
      have hS9 : SS v (l9.setIfInBounds 2 true) wS := by
        rw [HSS.out]
        exact ⟨freeM_other 2 (by decide) (by simp) hS.1, fun h1 => by
          rw [getD_set_ne false (by decide)] at h1
          exact hS.2 h1⟩
      obtain ⟨k9, -, -⟩ := of_block (freeM_block hS.1 HMY.out.2.2 (fun f => f) HMY.out.2.1)
      clear hS hm
      go_wp2
      exact ⟨rfl, by kernel_rfl, hS9⟩
    (try simp only [Act.put, List.setIfInBounds_toArray, List.set_cons_succ, List.set_cons_zero])
    refine walkedE_cons (.int .u64 4096) rfl (fun v => ?_) ?_
    · intro l9 wS hz hn hm hS
      rw [HSS.out] at hS
      have hS9 : SS v (l9.setIfInBounds 3 true) wS := by
        rw [HSS.out]
        exact ⟨freeM_other 3 (by decide) (by simp) hS.1, fun h1 => by
          rw [getD_set_ne false (by decide)] at h1
          exact hS.2 h1⟩
      obtain ⟨k9, -, -⟩ := of_block (freeM_block hS.1 HMY.out.2.2 (fun f => f) HMY.out.2.1)
      clear hS hm
      go_wp2
      exact ⟨rfl, by kernel_rfl, hS9⟩
    (try simp only [Act.put, List.setIfInBounds_toArray, List.set_cons_succ, List.set_cons_zero])
    refine walkedE_cons (.pointer (some ⟨vb, 1, none⟩)) rfl (fun v => ?_) ?_
    · intro l9 wS hz hn hm hS
      rw [HSS.out] at hS
      have hS9 : SS v (l9.setIfInBounds 4 true) wS := by
        rw [HSS.out]
        exact ⟨freeM_other 4 (by decide) (by simp) hS.1, fun h1 => by
          rw [getD_set_ne false (by decide)] at h1
          exact hS.2 h1⟩
      obtain ⟨k9, -, -⟩ := of_block (freeM_block hS.1 HMY.out.2.2 (fun f => f) HMY.out.2.1)
      clear hS hm
      go_wp2
      exact ⟨rfl, by kernel_rfl, hS9⟩
    (try simp only [Act.put, List.setIfInBounds_toArray, List.set_cons_succ, List.set_cons_zero])
    refine walkedE_cons (.bool V1) rfl (fun v => ?_) ?_
    · intro l9 wS hz hn hm hS
      rw [HSS.out] at hS
      have hS9 : SS v (l9.setIfInBounds 5 true) wS := by
        rw [HSS.out]
        exact ⟨freeM_other 5 (by decide) (by simp) hS.1, fun h1 => by
          rw [getD_set_ne false (by decide)] at h1
          exact hS.2 h1⟩
      obtain ⟨k9, -, -⟩ := of_block (freeM_block hS.1 HMY.out.2.2 (fun f => f) HMY.out.2.1)
      clear hS hm
      go_wp2
      exact ⟨rfl, by kernel_rfl, hS9⟩
    (try simp only [Act.put, List.setIfInBounds_toArray, List.set_cons_succ, List.set_cons_zero])
    refine walkedE_cons (.pointer (some ⟨vb, 2, none⟩)) rfl (fun v => ?_) ?_
    · intro l9 wS hz hn hm hS
      rw [HSS.out] at hS
      have hS9 : SS v (l9.setIfInBounds 6 true) wS := by
        rw [HSS.out]
        exact ⟨freeM_other 6 (by decide) (by simp) hS.1, fun h1 => by
          rw [getD_set_ne false (by decide)] at h1
          exact hS.2 h1⟩
      obtain ⟨k9, -, -⟩ := of_block (freeM_block hS.1 HMY.out.2.2 (fun f => f) HMY.out.2.1)
      clear hS hm
      go_wp2
      exact ⟨rfl, by kernel_rfl, hS9⟩
    (try simp only [Act.put, List.setIfInBounds_toArray, List.set_cons_succ, List.set_cons_zero])
    refine walkedE_cons (.int .u64 (rt : Nat)) rfl (fun v => ?_) ?_
    · intro l9 wS hz hn hm hS
      rw [HSS.out] at hS
      have hS9 : SS v (l9.setIfInBounds 7 true) wS := by
        rw [HSS.out]
        exact ⟨freeM_other 7 (by decide) (by simp) hS.1, fun h1 => by
          rw [getD_set_ne false (by decide)] at h1
          exact hS.2 h1⟩
      obtain ⟨k9, -, -⟩ := of_block (freeM_block hS.1 HMY.out.2.2 (fun f => f) HMY.out.2.1)
      clear hS hm
      go_wp2
      exact ⟨rfl, by kernel_rfl, hS9⟩
    (try simp only [Act.put, List.setIfInBounds_toArray, List.set_cons_succ, List.set_cons_zero])
    refine walkedE_cons (.int .u64 (at_ : Nat)) rfl (fun v => ?_) ?_
    · intro l9 wS hz hn hm hS
      rw [HSS.out] at hS
      have hS9 : SS v (l9.setIfInBounds 8 true) wS := by
        rw [HSS.out]
        exact ⟨freeM_other 8 (by decide) (by simp) hS.1, fun h1 => by
          rw [getD_set_ne false (by decide)] at h1
          exact hS.2 h1⟩
      obtain ⟨k9, -, -⟩ := of_block (freeM_block hS.1 HMY.out.2.2 (fun f => f) HMY.out.2.1)
      clear hS hm
      go_wp2
      exact ⟨rfl, by kernel_rfl, hS9⟩
    (try simp only [Act.put, List.setIfInBounds_toArray, List.set_cons_succ, List.set_cons_zero])
    refine walkedE_cons (.int .i64 k) rfl (fun v => ?_) ?_
    · intro l9 wS hz hn hm hS
      rw [HSS.out] at hS
      have hS9 : SS v (l9.setIfInBounds 9 true) wS := by
        rw [HSS.out]
        exact ⟨freeM_other 9 (by decide) (by simp) hS.1, fun h1 => by
          rw [getD_set_ne false (by decide)] at h1
          exact hS.2 h1⟩
      obtain ⟨k9, -, -⟩ := of_block (freeM_block hS.1 HMY.out.2.2 (fun f => f) HMY.out.2.1)
      clear hS hm
      go_wp2
      exact ⟨rfl, by kernel_rfl, hS9⟩
    (try simp only [Act.put, List.setIfInBounds_toArray, List.set_cons_succ, List.set_cons_zero])
    refine walkedE_cons (.tuple #[.agg #[Value.int .i64 (ofr : Nat), .int .u64 (oip : Nat), .bool o1, .bool o2, .bool o3, .bool o4, .bool o5, .bool o6], .agg #[Value.int .i64 fst, .int .i64 fk, .int .i64 flv, .int .u64 (fad : Nat), .bool fsto], .int .i64 (nq : Nat)]) rfl (fun v => ?_) ?_
    · intro l9 wS hz hn hm hS
      rw [HSS.out] at hS
      obtain ⟨dm, pgs, hv1, hD, hwd⟩ := hS.2 (hm _ rfl ⟨1, .data⟩ (by simp) rfl)
      have hc : Calls Try.prog 37 #[.pointer (some ⟨dm, 0, none⟩), .int .u64 4096, .bool V1, .int .u64 (rt : Nat), .int .u64 (at_ : Nat), .int .i64 k] wS (RetDoc wS (nestN (rawM 40 wd) (okM 40) 4096 V1 rt at_ k)) := docWalk_calls hD hwd HQ.out.2 4096 rt at_ (by decide) HO4.out.2.2.1 HO4.out.2.2.2 V1 k
      rw [HQ.out.1] at hc
      have hfin : ∀ y, Old wS y → SS v (l9.setIfInBounds 10 true) y := fun y hY => by
        rw [HSS.out]
        exact ⟨freeM_call HFC.out hz hS.1 trivial ((Only.of_below hY).mono fun _ _ f => f), fun h1 => by
          rw [getD_set_ne false (by decide)] at h1
          obtain ⟨dm, pgs, e1, e2, e3⟩ := hS.2 h1
          exact ⟨dm, pgs, e1, docM_old e2 hY, e3⟩⟩
      have HFIN := Lib.hid hfin
      clear hS hm hfin hD hwd
      rw [hv1]
      clear hv1
      go_wp2_with fail
      (with_reducible refine hc.mono ?_)
      rintro e y9 ⟨rfl, hY⟩
      have hf := HFIN.out y9 hY
      clear hc hY
      dsimp only [O8.cells, F5.cells]
      go_wp2
      exact ⟨rfl, by kernel_rfl, hf⟩
    (try simp only [Act.put, List.setIfInBounds_toArray, List.set_cons_succ, List.set_cons_zero])
    refine walkedE_cons (.tuple #[.agg #[Value.int .i64 (ofr : Nat), .int .u64 (oip : Nat), .bool o1, .bool o2, .bool o3, .bool o4, .bool o5, .bool o6], .agg #[Value.int .i64 fst, .int .i64 fk, .int .i64 flv, .int .u64 (fad : Nat), .bool fsto], .int .i64 (nq : Nat)]) rfl (fun v => ?_) ?_
    · intro l9 wS hz hn hm hS
      rw [HSS.out] at hS
      have hS9 : SS v (l9.setIfInBounds 11 true) wS := by
        rw [HSS.out]
        exact ⟨freeM_other 11 (by decide) (by simp) hS.1, fun h1 => by
          rw [getD_set_ne false (by decide)] at h1
          exact hS.2 h1⟩
      obtain ⟨k9, -, -⟩ := of_block (freeM_block hS.1 HMY.out.2.2 (fun f => f) HMY.out.2.1)
      clear hS hm
      go_wp2
      exact ⟨rfl, by kernel_rfl, hS9⟩
    (try simp only [Act.put, List.setIfInBounds_toArray, List.set_cons_succ, List.set_cons_zero])
    refine walkedE_cons (.agg #[Value.int .i64 (ofr : Nat), .int .u64 (oip : Nat), .bool o1, .bool o2, .bool o3, .bool o4, .bool o5, .bool o6]) rfl (fun v => ?_) ?_
    · intro l9 wS hz hn hm hS
      rw [HSS.out] at hS
      have hS9 : SS v (l9.setIfInBounds 12 true) wS := by
        rw [HSS.out]
        exact ⟨freeM_other 12 (by decide) (by simp) hS.1, fun h1 => by
          rw [getD_set_ne false (by decide)] at h1
          exact hS.2 h1⟩
      obtain ⟨k9, -, -⟩ := of_block (freeM_block hS.1 HMY.out.2.2 (fun f => f) HMY.out.2.1)
      clear hS hm
      go_wp2
      exact ⟨rfl, by kernel_rfl, hS9⟩
    (try simp only [Act.put, List.setIfInBounds_toArray, List.set_cons_succ, List.set_cons_zero])
    refine walkedE_cons (.agg #[Value.int .i64 fst, .int .i64 fk, .int .i64 flv, .int .u64 (fad : Nat), .bool fsto]) rfl (fun v => ?_) ?_
    · intro l9 wS hz hn hm hS
      rw [HSS.out] at hS
      have hS9 : SS v (l9.setIfInBounds 13 true) wS := by
        rw [HSS.out]
        exact ⟨freeM_other 13 (by decide) (by simp) hS.1, fun h1 => by
          rw [getD_set_ne false (by decide)] at h1
          exact hS.2 h1⟩
      obtain ⟨k9, -, -⟩ := of_block (freeM_block hS.1 HMY.out.2.2 (fun f => f) HMY.out.2.1)
      clear hS hm
      go_wp2
      exact ⟨rfl, by kernel_rfl, hS9⟩
    (try simp only [Act.put, List.setIfInBounds_toArray, List.set_cons_succ, List.set_cons_zero])
    refine walkedE_cons (.int .i64 (nq : Nat)) rfl (fun v => ?_) ?_
    · intro l9 wS hz hn hm hS
      rw [HSS.out] at hS
      have hS9 : SS v (l9.setIfInBounds 14 true) wS := by
        rw [HSS.out]
        exact ⟨freeM_other 14 (by decide) (by simp) hS.1, fun h1 => by
          rw [getD_set_ne false (by decide)] at h1
          exact hS.2 h1⟩
      obtain ⟨k9, -, -⟩ := of_block (freeM_block hS.1 HMY.out.2.2 (fun f => f) HMY.out.2.1)
      clear hS hm
      go_wp2
      exact ⟨rfl, by kernel_rfl, hS9⟩
    (try simp only [Act.put, List.setIfInBounds_toArray, List.set_cons_succ, List.set_cons_zero])
    refine walkedE_alloc (.cells #[Value.int .i64 0, .int .u64 0, .bool false, .bool false, .bool false, .bool false, .bool false, .bool false] 77) rfl rfl (by intro b y; simp [execOp, go_sem]) (fun v l9 x hz hn hm hS => ?_) ?_
    · rw [HSS.out] at hS ⊢
      exact ⟨freeM_alloc HFC.out hz (frDo #[Value.int .i64 (ofr : Nat), .int .u64 (oip : Nat), .bool o1, .bool o2, .bool o3, .bool o4, .bool o5, .bool o6]) (by simp) hn hS.1, fun h1 => by
        rw [getD_set_ne false (by decide)] at h1
        obtain ⟨dm, pgs, e1, e2, e3⟩ := hS.2 h1
        exact ⟨dm, pgs, (updV_ne _ (by decide)).trans e1, docM_old e2 (old_alloc (old_refl _) _), e3⟩⟩
    (try simp only [Act.put, List.setIfInBounds_toArray, List.set_cons_succ, List.set_cons_zero])
    refine walkedE_alloc (.cells #[Value.int .i64 0, .int .i64 0, .int .i64 0, .int .u64 0, .bool false] 67) rfl rfl (by intro b y; simp [execOp, go_sem]) (fun v l9 x hz hn hm hS => ?_) ?_
    · rw [HSS.out] at hS ⊢
      exact ⟨freeM_alloc HFC.out hz (frDf #[Value.int .i64 fst, .int .i64 fk, .int .i64 flv, .int .u64 (fad : Nat), .bool fsto]) (by simp) hn hS.1, fun h1 => by
        rw [getD_set_ne false (by decide)] at h1
        obtain ⟨dm, pgs, e1, e2, e3⟩ := hS.2 h1
        exact ⟨dm, pgs, (updV_ne _ (by decide)).trans e1, docM_old e2 (old_alloc (old_refl _) _), e3⟩⟩
    (try simp only [Act.put, List.setIfInBounds_toArray, List.set_cons_succ, List.set_cons_zero])
    refine walkedE_cons undef rfl (fun v => ?_) ?_
    · intro l9 wS hz hn hm hS
      rw [HSS.out] at hS
      have hA : l9.getD 15 false = true := hm _ rfl ⟨15, .data⟩ (by simp) rfl
      obtain ⟨r, hvr, hr, hblk⟩ := hS.1.blk (frDo #[Value.int .i64 (ofr : Nat), .int .u64 (oip : Nat), .bool o1, .bool o2, .bool o3, .bool o4, .bool o5, .bool o6]) (by simp) hA
      have hvr : v 15 = .pointer (some ⟨r, 0, none⟩) := hvr
      have hblk : wS.heap[r]? = some (.cells (bif l9.getD 17 false then _ else _) _) := hblk
      rw [hn] at hblk
      have hfin : SS v (l9.setIfInBounds 17 true) (putB wS r (.cells #[Value.int .i64 (ofr : Nat), .int .u64 (oip : Nat), .bool o1, .bool o2, .bool o3, .bool o4, .bool o5, .bool o6] 77)) := by
        rw [HSS.out]
        exact ⟨freeM_store HFC.out hz (frDo #[Value.int .i64 (ofr : Nat), .int .u64 (oip : Nat), .bool o1, .bool o2, .bool o3, .bool o4, .bool o5, .bool o6]) (by simp) hA hvr hS.1, fun h1 => by
          rw [getD_set_ne false (by decide)] at h1
          obtain ⟨dm, pgs, e1, e2, e3⟩ := hS.2 h1
          exact ⟨dm, pgs, e1, docM_put e2 hblk rfl, e3⟩⟩
      clear hS hm
      refine wpList_store_whole rfl 77 _ _ rfl r [Value.int .i64 (ofr : Nat), .int .u64 (oip : Nat), .bool o1, .bool o2, .bool o3, .bool o4, .bool o5, .bool o6] hvr rfl 77 _ hblk (by kernel_rfl) rfl (by intro v hv; simp only [List.mem_cons, List.not_mem_nil, or_false] at hv; rcases hv with rfl | rfl | rfl | rfl | rfl | rfl | rfl | rfl <;> rfl) ?_
      exact ⟨rfl, by kernel_rfl, hfin⟩
    (try simp only [Act.put, List.setIfInBounds_toArray, List.set_cons_succ, List.set_cons_zero])
    refine walkedE_cons undef rfl (fun v => ?_) ?_
    · intro l9 wS hz hn hm hS
      rw [HSS.out] at hS
      have hA : l9.getD 16 false = true := hm _ rfl ⟨16, .data⟩ (by simp) rfl
      obtain ⟨r, hvr, hr, hblk⟩ := hS.1.blk (frDf #[Value.int .i64 fst, .int .i64 fk, .int .i64 flv, .int .u64 (fad : Nat), .bool fsto]) (by simp) hA
      have hvr : v 16 = .pointer (some ⟨r, 0, none⟩) := hvr
      have hblk : wS.heap[r]? = some (.cells (bif l9.getD 18 false then _ else _) _) := hblk
      rw [hn] at hblk
      have hfin : SS v (l9.setIfInBounds 18 true) (putB wS r (.cells #[Value.int .i64 fst, .int .i64 fk, .int .i64 flv, .int .u64 (fad : Nat), .bool fsto] 67)) := by
        rw [HSS.out]
        exact ⟨freeM_store HFC.out hz (frDf #[Value.int .i64 fst, .int .i64 fk, .int .i64 flv, .int .u64 (fad : Nat), .bool fsto]) (by simp) hA hvr hS.1, fun h1 => by
          rw [getD_set_ne false (by decide)] at h1
          obtain ⟨dm, pgs, e1, e2, e3⟩ := hS.2 h1
          exact ⟨dm, pgs, e1, docM_put e2 hblk rfl, e3⟩⟩
      clear hS hm
      refine wpList_store_whole rfl 67 _ _ rfl r [Value.int .i64 fst, .int .i64 fk, .int .i64 flv, .int .u64 (fad : Nat), .bool fsto] hvr rfl 67 _ hblk (by kernel_rfl) rfl (by intro v hv; simp only [List.mem_cons, List.not_mem_nil, or_false] at hv; rcases hv with rfl | rfl | rfl | rfl | rfl <;> rfl) ?_
      exact ⟨rfl, by kernel_rfl, hfin⟩
    (try simp only [Act.put, List.setIfInBounds_toArray, List.set_cons_succ, List.set_cons_zero])
    refine walkedE_cons (.int .i64 (nq : Nat)) rfl (fun v => ?_) ?_
    · intro l9 wS hz hn hm hS
      rw [HSS.out] at hS
      have hS9 : SS v (l9.setIfInBounds 19 true) wS := by
        rw [HSS.out]
        exact ⟨freeM_other 19 (by decide) (by simp) hS.1, fun h1 => by
          rw [getD_set_ne false (by decide)] at h1
          exact hS.2 h1⟩
      obtain ⟨k9, -, -⟩ := of_block (freeM_block hS.1 HMY.out.2.2 (fun f => f) HMY.out.2.1)
      clear hS hm
      go_wp2
      exact ⟨rfl, by kernel_rfl, hS9⟩
    (try simp only [Act.put, List.setIfInBounds_toArray, List.set_cons_succ, List.set_cons_zero])
    refine walkedE_nil fun v => ?_
    intro l9 y hz hall hS
    rw [HSS.out] at hS
    obtain ⟨r1, hv15, hr1, hb15⟩ := freeM_end hS.1 (frDo #[Value.int .i64 (ofr : Nat), .int .u64 (oip : Nat), .bool o1, .bool o2, .bool o3, .bool o4, .bool o5, .bool o6]) (by simp) (hall 15 (by decide)) (hall 17 (by decide))
    obtain ⟨r2, hv16, hr2, hb16⟩ := freeM_end hS.1 (frDf #[Value.int .i64 fst, .int .i64 fk, .int .i64 flv, .int .u64 (fad : Nat), .bool fsto]) (by simp) (hall 16 (by decide)) (hall 18 (by decide))
    have hOY : Old Y1 y := Only.to_below (hS.1.only)
    have HY3 := Lib.hid (And.intro hOY (And.intro hb15 hb16))
    have hv15' : v 15 = .pointer (some ⟨r1, 0, none⟩) := hv15
    have hv16' : v 16 = .pointer (some ⟨r2, 0, none⟩) := hv16
    clear hall hz hS hv15 hv16 hr1 hr2 hb15 hb16 hOY
    rw [hv15', hv16']
    clear hv15' hv16'
    show wpList _ _ _ [] _ _
    obtain ⟨j1, -, -⟩ := of_block (keep_old HY3.out.1 HY1.out.2.1)
    obtain ⟨j2, -, -⟩ := of_block (keep_old HY3.out.1 HY1.out.2.2.1)
    obtain ⟨j3, -, -⟩ := of_block HY3.out.2.1
    obtain ⟨j4, -, -⟩ := of_block HY3.out.2.2
    have HM3 := Lib.hid (memS_old HMY.out.1 HY3.out.1)
    have hc : Calls Try.prog 36 #[.agg #[Value.int .i64 (ofr : Nat), .int .u64 (oip : Nat), .bool o1, .bool o2, .bool o3, .bool o4, .bool o5, .bool o6], .agg #[Value.int .i64 fst, .int .i64 fk, .int .i64 flv, .int .u64 (fad : Nat), .bool fsto], .int .i64 (nq : Nat), .agg #[Value.int .i64 (ofr : Nat), .int .u64 (oip : Nat), .bool o1, .bool o2, .bool o3, .bool o4, .bool o5, .bool o6], .agg #[Value.int .i64 fst, .int .i64 fk, .int .i64 flv, .int .u64 (fad : Nat), .bool fsto], .int .i64 (nq : Nat)] y (RetB y (.bool true)) := same14_calls ⟨ofr, oip, o1, o2, o3, o4, o5, o6⟩ ⟨fst, fk, flv, fad, fsto⟩ nq
    go_wp2_with fail
    (with_reducible refine hc.mono ?_)
    rintro e y4 ⟨rfl, hO5⟩
    have HM4 := Lib.hid (memS_old HM3.out hO5)
    clear hc hO5 j1 j2 j3 j4
    go_wp2
    refine Met.intro (hJ2 _ _ (by kernel_rfl) ?_ ?_)
    · have h1 := HZ.out
      refine ⟨z + 1, N + 24, rfl, by omega, ?_, HM4.out⟩
      have := H13.out.2
      omega
    · rw [H13.out.1]
      show 4 - (intOf (Value.int .i64 (z + 1))).toNat < 4 - (intOf (Value.int .i64 z)).toNat
      have h1 := HZ.out
      simp only [intOf]
      omega
end Go.Proofs.Ytlbehhbicmmdoaa
