/- told of the statements of layer 14. -/
import Derived.Test.YtlbehhbicmmdoaaNestTell
namespace Go.Proofs.Ytlbehhbicmmdoaa
set_option linter.unusedVariables false
set_option linter.unusedSimpArgs false
open Go.RowKit

set_option maxRecDepth 100000 in
theorem told_w1 : nestN (rawM 40 (wdC 16)) (okM 40) 4096 false 0 20488 1 = (⟨12, 5, true, true, true, true, true, false⟩, F0, 4) := by kernel_rfl
set_option maxRecDepth 100000 in
theorem told_w2 : ∃ (oip : Nat) (o1 o2 o3 o4 o5 o6 : Bool), nestN (rawM 40 (wdC 16)) (okM 40) 4096 true 0 4104 1 = (⟨12, oip, o1, o2, o3, o4, o5, o6⟩, F0, 24) := by
  refine ⟨(nestN (rawM 40 (wdC 16)) (okM 40) 4096 true 0 4104 1).1.ip, (nestN (rawM 40 (wdC 16)) (okM 40) 4096 true 0 4104 1).1.r1, (nestN (rawM 40 (wdC 16)) (okM 40) 4096 true 0 4104 1).1.w1, (nestN (rawM 40 (wdC 16)) (okM 40) 4096 true 0 4104 1).1.x1, (nestN (rawM 40 (wdC 16)) (okM 40) 4096 true 0 4104 1).1.r2, (nestN (rawM 40 (wdC 16)) (okM 40) 4096 true 0 4104 1).1.w2, (nestN (rawM 40 (wdC 16)) (okM 40) 4096 true 0 4104 1).1.x2, ?_⟩
  kernel_rfl
set_option maxHeartbeats 16000000 in
set_option maxRecDepth 100000 in
theorem told14_calls (w : World) : Calls Try.prog 32 #[] w (RetB w (.bool true)) := by
  have hw : Calls Try.prog 29 #[.slice none 0 0] w (RetWorld w []) := world14_calls w none [] 0 (by decide) (fun i e h => by simp at h)
  have hn : ∀ y, Calls Try.prog 30 #[.pointer none, .agg #[.int .u64 0, .bool false, .int .u64 0], .int .u64 0, .int .i64 1] y (RetB y (.tuple #[.agg #[Value.int .i64 0, .int .u64 0, .bool false, .bool false, .bool false, .bool false, .bool false, .bool false], .agg #[Value.int .i64 2, .int .i64 4, .int .i64 (-1), .int .u64 0, .bool false], .int .i64 0])) := walkM_nil
  have hfr : ∀ y, Calls Try.prog 40 #[.int .i64 5] y (RetB y (.int .i64 12)) := fun y => frame14_calls 5 (by decide) y
  have he0 : ∀ y, (Op.equalIn 10000 67 (.agg #[Value.int .i64 0, .int .i64 0, .int .i64 0, .int .u64 0, .bool false]) (.agg #[Value.int .i64 0, .int .i64 0, .int .i64 0, .int .u64 0, .bool false])).run Try.prog y = .ok true y := fun y => eq_fau_self F0 y
  have he1 : ∀ y, (Op.equalIn 10000 67 (.agg #[Value.int .i64 2, .int .i64 2, .int .i64 (-1), .int .u64 16384, .bool true]) (.agg #[Value.int .i64 2, .int .i64 2, .int .i64 (-1), .int .u64 16384, .bool true])).run Try.prog y = .ok true y := fun y => eq_fau_self ⟨2, 2, -1, 16384, true⟩ y
  obtain ⟨oip, o1, o2, o3, o4, o5, o6, hv2⟩ := told_w2
  have HN := Lib.hid hn
  have HFR := Lib.hid hfr
  have HEQ := Lib.hid (And.intro he0 he1)
  have HV2 := Lib.hid hv2
  clear hn hfr he0 he1 hv2
  go_enter Try.func32, Try.ntmps32
  go_wp2_with fail
  (with_reducible refine hw.mono ?_)
  rintro e x1 ⟨p, mb, wd, rfl, hS, hwd⟩
  obtain rfl := hwd rfl
  have hm0 : MemS w p (wdC 16) 100 (fun _ => False) x1 := memS_of hS
  have hc : Calls Try.prog 30 #[.pointer (some ⟨p, 0, none⟩), .agg #[.int .u64 4096, .bool false, .int .u64 0], .int .u64 20488, .int .i64 1] x1 (RetW w p (wdC 16) 124 (fun _ => False) x1 (⟨12, 5, true, true, true, true, true, false⟩, F0, 4)) := by
    have h := memS_walk hm0 (by decide) 4096 0 20488 false (by decide) (by decide) (by decide) 1
    rw [told_w1] at h
    exact h
  clear hw hS hwd hm0
  go_wp2_with fail
  (with_reducible refine hc.mono ?_)
  rintro e y1 ⟨rfl, hm, -, -⟩
  have HM1 := Lib.hid hm
  clear hc hm
  dsimp only [O8.cells, F5.cells, F0]
  obtain ⟨Y1, hY1, hOY1, hob1, hfb1, hsY1, i1, i2⟩ := pair_new y1 #[Value.int .i64 0, .int .u64 0, .bool false, .bool false, .bool false, .bool false, .bool false, .bool false] #[Value.int .i64 0, .int .i64 0, .int .i64 0, .int .u64 0, .bool false] #[Value.int .i64 12, .int .u64 5, .bool true, .bool true, .bool true, .bool true, .bool true, .bool false] #[Value.int .i64 0, .int .i64 0, .int .i64 0, .int .u64 0, .bool false] 65 67
  have HY1 := Lib.hid (And.intro hOY1 (And.intro hob1 (And.intro hfb1 hsY1)))
  have HEY1 := Lib.hid hY1
  have I1Y1 := Lib.hid i1
  have I2Y1 := Lib.hid i2
  clear hY1 hOY1 hob1 hfb1 hsY1 i1 i2
  go_upto_region 5 with (first | (refine wpList_store_whole rfl 65 _ _ rfl y1.heap.size [Value.int .i64 12, .int .u64 5, .bool true, .bool true, .bool true, .bool true, .bool true, .bool false] rfl rfl 65 _ I1Y1.out (by kernel_rfl) rfl (by intro v hv; simp only [List.mem_cons, List.not_mem_nil, or_false] at hv; rcases hv with rfl | rfl | rfl | rfl | rfl | rfl | rfl | rfl <;> rfl) ?_) | (refine wpList_store_whole rfl 67 _ _ rfl (y1.heap.size + 1) [Value.int .i64 0, .int .i64 0, .int .i64 0, .int .u64 0, .bool false] rfl rfl 67 _ I2Y1.out (by kernel_rfl) rfl (by intro v hv; simp only [List.mem_cons, List.not_mem_nil, or_false] at hv; rcases hv with rfl | rfl | rfl | rfl | rfl <;> rfl) ?_))
  rw [← HEY1.out]
  clear HEY1 I1Y1 I2Y1
  obtain ⟨fb1, hfb1⟩ : ∃ fb1, fb1 = y1.heap.size + 1 := ⟨_, rfl⟩
  obtain ⟨ob1, hob1⟩ : ∃ ob1, ob1 = y1.heap.size := ⟨_, rfl⟩
  rw [← hfb1, ← hob1]
  rw [← hfb1, ← hob1] at HY1
  have HBY1 := Lib.hid (And.intro hob1 hfb1)
  clear hfb1 hob1
  have hm1 : MemS w p (wdC 16) 124 (fun b => b = ob1 ∨ b = fb1) Y1 := memS_new HM1.out HY1.out.1 (fun b hb => .inr (by have := HBY1.out; omega))
  have hc : Calls Try.prog 30 #[.pointer (some ⟨p, 0, none⟩), .agg #[.int .u64 4096, .bool true, .int .u64 0], .int .u64 4104, .int .i64 1] Y1 (RetW w p (wdC 16) 148 (fun b => b = ob1 ∨ b = fb1) Y1 (⟨12, oip, o1, o2, o3, o4, o5, o6⟩, F0, 24)) := by
    have h := memS_walk hm1 (by decide) 4096 0 4104 true (by decide) (by decide) (by decide) 1
    rw [HV2.out] at h
    exact h
  clear hm1
  go_wp2_with fail
  (with_reducible refine hc.mono ?_)
  rintro e y2 ⟨rfl, hm, hk, hsz⟩
  have HM2 := Lib.hid (And.intro hm (And.intro (hk ob1 _ (.inl rfl) HY1.out.2.1) (And.intro (hk fb1 _ (.inr rfl) HY1.out.2.2.1) hsz)))
  clear hc hm hk hsz
  dsimp only [O8.cells, F5.cells, F0]
  obtain ⟨Y2, hY2, hOY2, hob2, hfb2, hsY2, i1, i2⟩ := pair_new y2 #[Value.int .i64 0, .int .u64 0, .bool false, .bool false, .bool false, .bool false, .bool false, .bool false] #[Value.int .i64 0, .int .i64 0, .int .i64 0, .int .u64 0, .bool false] #[Value.int .i64 12, .int .u64 (oip : Nat), .bool o1, .bool o2, .bool o3, .bool o4, .bool o5, .bool o6] #[Value.int .i64 0, .int .i64 0, .int .i64 0, .int .u64 0, .bool false] 65 67
  have HY2 := Lib.hid (And.intro hOY2 (And.intro hob2 (And.intro hfb2 hsY2)))
  have HEY2 := Lib.hid hY2
  have I1Y2 := Lib.hid i1
  have I2Y2 := Lib.hid i2
  clear hY2 hOY2 hob2 hfb2 hsY2 i1 i2
  go_upto_region 6 with (first | (refine wpList_store_whole rfl 65 _ _ rfl y2.heap.size [Value.int .i64 12, .int .u64 (oip : Nat), .bool o1, .bool o2, .bool o3, .bool o4, .bool o5, .bool o6] rfl rfl 65 _ I1Y2.out (by kernel_rfl) rfl (by intro v hv; simp only [List.mem_cons, List.not_mem_nil, or_false] at hv; rcases hv with rfl | rfl | rfl | rfl | rfl | rfl | rfl | rfl <;> rfl) ?_) | (refine wpList_store_whole rfl 67 _ _ rfl (y2.heap.size + 1) [Value.int .i64 0, .int .i64 0, .int .i64 0, .int .u64 0, .bool false] rfl rfl 67 _ I2Y2.out (by kernel_rfl) rfl (by intro v hv; simp only [List.mem_cons, List.not_mem_nil, or_false] at hv; rcases hv with rfl | rfl | rfl | rfl | rfl <;> rfl) ?_))
  rw [← HEY2.out]
  clear HEY2 I1Y2 I2Y2
  obtain ⟨fb2, hfb2⟩ : ∃ fb2, fb2 = y2.heap.size + 1 := ⟨_, rfl⟩
  obtain ⟨ob2, hob2⟩ : ∃ ob2, ob2 = y2.heap.size := ⟨_, rfl⟩
  rw [← hfb2, ← hob2]
  rw [← hfb2, ← hob2] at HY2
  have HBY2 := Lib.hid (And.intro hob2 hfb2)
  clear hfb2 hob2
  have hm2 : MemS w p (wdC 16) 148 (fun b => (b = ob1 ∨ b = fb1) ∨ b = ob2 ∨ b = fb2) Y2 := memS_new HM2.out.1 HY2.out.1 (fun b hb => hb.imp id (fun h => by have := HBY2.out; omega))
  have hc : Calls Try.prog 33 #[.pointer (some ⟨p, 0, none⟩), .int .u64 4096, .int .u64 16384, .int .i64 2] Y2 (RetW w p (wdC 16) 152 (fun b => (b = ob1 ∨ b = fb1) ∨ b = ob2 ∨ b = fb2) Y2 (O0, ⟨2, 2, -1, 16384, true⟩, 4)) := by
    have h := memS_second hm2 (by decide) 4096 16384 (by decide) (by decide) 2
    rw [told_v3] at h
    exact h
  have a1 := keep_old HY2.out.1 HM2.out.2.1
  have a2 := keep_old HY2.out.1 HM2.out.2.2.1
  have HA := Lib.hid (And.intro a1 a2)
  clear hm2 a1 a2
  go_wp2_with fail
  (with_reducible refine hc.mono ?_)
  rintro e y3 ⟨rfl, hm, hk, hsz⟩
  have HM3 := Lib.hid (And.intro hm (And.intro (hk ob1 _ (.inl (.inl rfl)) HA.out.1) (And.intro (hk fb1 _ (.inl (.inr rfl)) HA.out.2) (And.intro (hk ob2 _ (.inr (.inl rfl)) HY2.out.2.1) (hk fb2 _ (.inr (.inr rfl)) HY2.out.2.2.1)))))
  clear hc hm hk hsz
  dsimp only [O8.cells, F5.cells, F0, O0]
  obtain ⟨Y3, hY3, hOY3, hob3, hfb3, hsY3, i1, i2⟩ := pair_new y3 #[Value.int .i64 0, .int .u64 0, .bool false, .bool false, .bool false, .bool false, .bool false, .bool false] #[Value.int .i64 0, .int .i64 0, .int .i64 0, .int .u64 0, .bool false] #[Value.int .i64 0, .int .u64 0, .bool false, .bool false, .bool false, .bool false, .bool false, .bool false] #[Value.int .i64 2, .int .i64 2, .int .i64 (-1), .int .u64 16384, .bool true] 65 67
  have HY3 := Lib.hid (And.intro hOY3 (And.intro hob3 (And.intro hfb3 hsY3)))
  have HEY3 := Lib.hid hY3
  have I1Y3 := Lib.hid i1
  have I2Y3 := Lib.hid i2
  clear hY3 hOY3 hob3 hfb3 hsY3 i1 i2
  go_upto_region 7 with (first | (refine wpList_store_whole rfl 65 _ _ rfl y3.heap.size [Value.int .i64 0, .int .u64 0, .bool false, .bool false, .bool false, .bool false, .bool false, .bool false] rfl rfl 65 _ I1Y3.out (by kernel_rfl) rfl (by intro v hv; simp only [List.mem_cons, List.not_mem_nil, or_false] at hv; rcases hv with rfl | rfl | rfl | rfl | rfl | rfl | rfl | rfl <;> rfl) ?_) | (refine wpList_store_whole rfl 67 _ _ rfl (y3.heap.size + 1) [Value.int .i64 2, .int .i64 2, .int .i64 (-1), .int .u64 16384, .bool true] rfl rfl 67 _ I2Y3.out (by kernel_rfl) rfl (by intro v hv; simp only [List.mem_cons, List.not_mem_nil, or_false] at hv; rcases hv with rfl | rfl | rfl | rfl | rfl <;> rfl) ?_))
  rw [← HEY3.out]
  clear HEY3 I1Y3 I2Y3
  obtain ⟨fb3, hfb3⟩ : ∃ fb3, fb3 = y3.heap.size + 1 := ⟨_, rfl⟩
  obtain ⟨ob3, hob3⟩ : ∃ ob3, ob3 = y3.heap.size := ⟨_, rfl⟩
  rw [← hfb3, ← hob3]
  rw [← hfb3, ← hob3] at HY3
  have HBY3 := Lib.hid (And.intro hob3 hfb3)
  clear hfb3 hob3
  have HM4 := Lib.hid (And.intro (memS_old HM3.out.1 HY3.out.1) (And.intro (keep_old HY3.out.1 HM3.out.2.1) (And.intro (keep_old HY3.out.1 HM3.out.2.2.1) (And.intro (keep_old HY3.out.1 HM3.out.2.2.2.1) (And.intro (keep_old HY3.out.1 HM3.out.2.2.2.2) HY3.out.2.2.1)))))
  go_wp2_with fail
  (with_reducible refine (HN.out _).mono ?_)
  rintro e y4 ⟨rfl, hO4⟩
  have HO4 := Lib.hid hO4
  clear hO4
  obtain ⟨Y4, hY4, hOY4, hob4, hfb4, hsY4, i1, i2⟩ := pair_new y4 #[Value.int .i64 0, .int .u64 0, .bool false, .bool false, .bool false, .bool false, .bool false, .bool false] #[Value.int .i64 0, .int .i64 0, .int .i64 0, .int .u64 0, .bool false] #[Value.int .i64 0, .int .u64 0, .bool false, .bool false, .bool false, .bool false, .bool false, .bool false] #[Value.int .i64 2, .int .i64 4, .int .i64 (-1), .int .u64 0, .bool false] 65 67
  have HY4 := Lib.hid (And.intro hOY4 (And.intro hob4 (And.intro hfb4 hsY4)))
  have HEY4 := Lib.hid hY4
  have I1Y4 := Lib.hid i1
  have I2Y4 := Lib.hid i2
  clear hY4 hOY4 hob4 hfb4 hsY4 i1 i2
  go_upto_region 8 with (first | (refine wpList_store_whole rfl 65 _ _ rfl y4.heap.size [Value.int .i64 0, .int .u64 0, .bool false, .bool false, .bool false, .bool false, .bool false, .bool false] rfl rfl 65 _ I1Y4.out (by kernel_rfl) rfl (by intro v hv; simp only [List.mem_cons, List.not_mem_nil, or_false] at hv; rcases hv with rfl | rfl | rfl | rfl | rfl | rfl | rfl | rfl <;> rfl) ?_) | (refine wpList_store_whole rfl 67 _ _ rfl (y4.heap.size + 1) [Value.int .i64 2, .int .i64 4, .int .i64 (-1), .int .u64 0, .bool false] rfl rfl 67 _ I2Y4.out (by kernel_rfl) rfl (by intro v hv; simp only [List.mem_cons, List.not_mem_nil, or_false] at hv; rcases hv with rfl | rfl | rfl | rfl | rfl <;> rfl) ?_))
  rw [← HEY4.out]
  clear HEY4 I1Y4 I2Y4
  obtain ⟨fb4, hfb4⟩ : ∃ fb4, fb4 = y4.heap.size + 1 := ⟨_, rfl⟩
  obtain ⟨ob4, hob4⟩ : ∃ ob4, ob4 = y4.heap.size := ⟨_, rfl⟩
  rw [← hfb4, ← hob4]
  rw [← hfb4, ← hob4] at HY4
  have HBY4 := Lib.hid (And.intro hob4 hfb4)
  clear hfb4 hob4
  have hO := old_then HO4.out HY4.out.1
  have HL := Lib.hid (And.intro (keep_old hO HM4.out.2.1) (And.intro (keep_old hO HM4.out.2.2.1) (And.intro (keep_old hO HM4.out.2.2.2.1) (And.intro (keep_old hO HM4.out.2.2.2.2.1) (And.intro (keep_old hO HM4.out.2.2.2.2.2) HY4.out.2.2.1)))))
  have HOW := Lib.hid (old_then (memS_word HM4.out.1) hO)
  clear hO
  have he0 := HEQ.out.1
  have he1 := HEQ.out.2
  refine wp_region_walked (S := Old Y4) (by kernel_rfl) (by kernel_rfl) (old_drew (old_refl _)) ?_
  apply walked_cons
  · intro wS hS
    obtain ⟨k9, -, -⟩ := of_block (keep_old hS HL.out.2.1)
    have HS := Lib.hid hS
    clear hS
    go_wp2
    exact ⟨rfl, rfl, HS.out⟩
  · rfl
  (try simp only [Act.put, List.setIfInBounds_toArray, List.set_cons_succ, List.set_cons_zero])
  apply walked_cons
  · intro wS hS
    have HS := Lib.hid hS
    clear hS
    go_wp2
    exact ⟨rfl, rfl, HS.out⟩
  · rfl
  (try simp only [Act.put, List.setIfInBounds_toArray, List.set_cons_succ, List.set_cons_zero])
  apply walked_cons
  · intro wS hS
    have HS := Lib.hid hS
    clear hS
    go_wp2
    exact ⟨rfl, rfl, HS.out⟩
  · rfl
  (try simp only [Act.put, List.setIfInBounds_toArray, List.set_cons_succ, List.set_cons_zero])
  apply walked_cons
  · intro wS hS
    have HS := Lib.hid hS
    clear hS
    go_wp2
    exact ⟨rfl, rfl, HS.out⟩
  · rfl
  (try simp only [Act.put, List.setIfInBounds_toArray, List.set_cons_succ, List.set_cons_zero])
  apply walked_cons
  · intro wS hS
    have HS := Lib.hid hS
    clear hS
    go_wp2
    exact ⟨rfl, rfl, HS.out⟩
  · rfl
  (try simp only [Act.put, List.setIfInBounds_toArray, List.set_cons_succ, List.set_cons_zero])
  apply walked_cons
  · intro wS hS
    obtain ⟨k9, -, -⟩ := of_block (keep_old hS HL.out.1)
    have HS := Lib.hid hS
    clear hS
    go_wp2
    exact ⟨rfl, rfl, HS.out⟩
  · rfl
  (try simp only [Act.put, List.setIfInBounds_toArray, List.set_cons_succ, List.set_cons_zero])
  apply walked_cons
  · intro wS hS
    have HS := Lib.hid hS
    clear hS
    go_wp2_with fail
    (with_reducible refine (HFR.out _).mono ?_)
    rintro e y9 ⟨rfl, hY⟩
    have HY := Lib.hid hY
    clear hY
    go_wp2
    exact ⟨rfl, rfl, old_then HS.out HY.out⟩
  · rfl
  (try simp only [Act.put, List.setIfInBounds_toArray, List.set_cons_succ, List.set_cons_zero])
  apply walked_cons
  · intro wS hS
    have HS := Lib.hid hS
    clear hS
    go_wp2
    exact ⟨rfl, rfl, HS.out⟩
  · rfl
  (try simp only [Act.put, List.setIfInBounds_toArray, List.set_cons_succ, List.set_cons_zero])
  apply walked_cons
  · intro wS hS
    have HS := Lib.hid hS
    clear hS
    go_wp2
    exact ⟨rfl, rfl, HS.out⟩
  · rfl
  (try simp only [Act.put, List.setIfInBounds_toArray, List.set_cons_succ, List.set_cons_zero])
  apply walked_cons
  · intro wS hS
    have HS := Lib.hid hS
    clear hS
    go_wp2
    exact ⟨rfl, rfl, HS.out⟩
  · rfl
  (try simp only [Act.put, List.setIfInBounds_toArray, List.set_cons_succ, List.set_cons_zero])
  apply walked_cons
  · intro wS hS
    have HS := Lib.hid hS
    clear hS
    go_wp2
    exact ⟨rfl, rfl, HS.out⟩
  · rfl
  (try simp only [Act.put, List.setIfInBounds_toArray, List.set_cons_succ, List.set_cons_zero])
  apply walked_cons
  · intro wS hS
    obtain ⟨k9, -, -⟩ := of_block (keep_old hS HL.out.1)
    have HS := Lib.hid hS
    clear hS
    go_wp2
    exact ⟨rfl, rfl, HS.out⟩
  · rfl
  (try simp only [Act.put, List.setIfInBounds_toArray, List.set_cons_succ, List.set_cons_zero])
  apply walked_cons
  · intro wS hS
    have HS := Lib.hid hS
    clear hS
    go_wp2
    exact ⟨rfl, rfl, HS.out⟩
  · rfl
  (try simp only [Act.put, List.setIfInBounds_toArray, List.set_cons_succ, List.set_cons_zero])
  apply walked_cons
  · intro wS hS
    have HS := Lib.hid hS
    clear hS
    go_wp2
    exact ⟨rfl, rfl, HS.out⟩
  · rfl
  (try simp only [Act.put, List.setIfInBounds_toArray, List.set_cons_succ, List.set_cons_zero])
  apply walked_cons
  · intro wS hS
    have HS := Lib.hid hS
    clear hS
    go_wp2
    exact ⟨rfl, rfl, HS.out⟩
  · rfl
  (try simp only [Act.put, List.setIfInBounds_toArray, List.set_cons_succ, List.set_cons_zero])
  apply walked_cons
  · intro wS hS
    have HS := Lib.hid hS
    clear hS
    go_wp2
    exact ⟨rfl, rfl, HS.out⟩
  · rfl
  (try simp only [Act.put, List.setIfInBounds_toArray, List.set_cons_succ, List.set_cons_zero])
  apply walked_cons
  · intro wS hS
    have HS := Lib.hid hS
    clear hS
    go_wp2
    exact ⟨rfl, rfl, HS.out⟩
  · rfl
  (try simp only [Act.put, List.setIfInBounds_toArray, List.set_cons_succ, List.set_cons_zero])
  apply walked_cons
  · intro wS hS
    have HS := Lib.hid hS
    clear hS
    go_wp2
    exact ⟨rfl, rfl, HS.out⟩
  · rfl
  (try simp only [Act.put, List.setIfInBounds_toArray, List.set_cons_succ, List.set_cons_zero])
  apply walked_cons
  · intro wS hS
    have HS := Lib.hid hS
    clear hS
    go_wp2
    exact ⟨rfl, rfl, HS.out⟩
  · rfl
  (try simp only [Act.put, List.setIfInBounds_toArray, List.set_cons_succ, List.set_cons_zero])
  apply walked_cons
  · intro wS hS
    obtain ⟨k9, -, -⟩ := of_block (keep_old hS HL.out.2.2.2.1)
    have HS := Lib.hid hS
    clear hS
    go_wp2
    exact ⟨rfl, rfl, HS.out⟩
  · rfl
  (try simp only [Act.put, List.setIfInBounds_toArray, List.set_cons_succ, List.set_cons_zero])
  apply walked_cons
  · intro wS hS
    have HS := Lib.hid hS
    clear hS
    go_wp2
    exact ⟨rfl, rfl, HS.out⟩
  · rfl
  (try simp only [Act.put, List.setIfInBounds_toArray, List.set_cons_succ, List.set_cons_zero])
  apply walked_cons
  · intro wS hS
    have HS := Lib.hid hS
    clear hS
    go_wp2
    exact ⟨rfl, rfl, HS.out⟩
  · rfl
  (try simp only [Act.put, List.setIfInBounds_toArray, List.set_cons_succ, List.set_cons_zero])
  apply walked_cons
  · intro wS hS
    have HS := Lib.hid hS
    clear hS
    go_wp2
    exact ⟨rfl, rfl, HS.out⟩
  · rfl
  (try simp only [Act.put, List.setIfInBounds_toArray, List.set_cons_succ, List.set_cons_zero])
  apply walked_cons
  · intro wS hS
    have HS := Lib.hid hS
    clear hS
    go_wp2
    exact ⟨rfl, rfl, HS.out⟩
  · rfl
  (try simp only [Act.put, List.setIfInBounds_toArray, List.set_cons_succ, List.set_cons_zero])
  apply walked_cons
  · intro wS hS
    have HS := Lib.hid hS
    clear hS
    go_wp2
    exact ⟨rfl, rfl, HS.out⟩
  · rfl
  (try simp only [Act.put, List.setIfInBounds_toArray, List.set_cons_succ, List.set_cons_zero])
  apply walked_cons
  · intro wS hS
    obtain ⟨k9, -, -⟩ := of_block (keep_old hS HL.out.2.2.1)
    have HS := Lib.hid hS
    clear hS
    go_wp2
    exact ⟨rfl, rfl, HS.out⟩
  · rfl
  (try simp only [Act.put, List.setIfInBounds_toArray, List.set_cons_succ, List.set_cons_zero])
  apply walked_cons
  · intro wS hS
    have HS := Lib.hid hS
    clear hS
    go_wp2_with fail
    (with_reducible refine (HFR.out _).mono ?_)
    rintro e y9 ⟨rfl, hY⟩
    have HY := Lib.hid hY
    clear hY
    go_wp2
    exact ⟨rfl, rfl, old_then HS.out HY.out⟩
  · rfl
  (try simp only [Act.put, List.setIfInBounds_toArray, List.set_cons_succ, List.set_cons_zero])
  apply walked_cons
  · intro wS hS
    have HS := Lib.hid hS
    clear hS
    go_wp2
    exact ⟨rfl, rfl, HS.out⟩
  · rfl
  (try simp only [Act.put, List.setIfInBounds_toArray, List.set_cons_succ, List.set_cons_zero])
  apply walked_cons
  · intro wS hS
    have HS := Lib.hid hS
    clear hS
    go_wp2
    exact ⟨rfl, rfl, HS.out⟩
  · rfl
  (try simp only [Act.put, List.setIfInBounds_toArray, List.set_cons_succ, List.set_cons_zero])
  apply walked_cons
  · intro wS hS
    have HS := Lib.hid hS
    clear hS
    go_wp2
    exact ⟨rfl, rfl, HS.out⟩
  · rfl
  (try simp only [Act.put, List.setIfInBounds_toArray, List.set_cons_succ, List.set_cons_zero])
  apply walked_cons
  · intro wS hS
    have HS := Lib.hid hS
    clear hS
    go_wp2
    exact ⟨rfl, rfl, HS.out⟩
  · rfl
  (try simp only [Act.put, List.setIfInBounds_toArray, List.set_cons_succ, List.set_cons_zero])
  apply walked_cons
  · intro wS hS
    have HS := Lib.hid hS
    clear hS
    go_wp2
    exact ⟨rfl, rfl, HS.out⟩
  · rfl
  (try simp only [Act.put, List.setIfInBounds_toArray, List.set_cons_succ, List.set_cons_zero])
  apply walked_cons
  · intro wS hS
    have HS := Lib.hid hS
    clear hS
    go_wp2
    exact ⟨rfl, rfl, HS.out⟩
  · rfl
  (try simp only [Act.put, List.setIfInBounds_toArray, List.set_cons_succ, List.set_cons_zero])
  apply walked_cons
  · intro wS hS
    have HS := Lib.hid hS
    clear hS
    go_wp2
    exact ⟨rfl, rfl, HS.out⟩
  · rfl
  (try simp only [Act.put, List.setIfInBounds_toArray, List.set_cons_succ, List.set_cons_zero])
  apply walked_cons
  · intro wS hS
    obtain ⟨k9, -, -⟩ := of_block (keep_old hS HL.out.2.2.2.2.1)
    have HS := Lib.hid hS
    clear hS
    go_wp2
    exact ⟨rfl, rfl, HS.out⟩
  · rfl
  (try simp only [Act.put, List.setIfInBounds_toArray, List.set_cons_succ, List.set_cons_zero])
  apply walked_cons
  · intro wS hS
    have HS := Lib.hid hS
    clear hS
    go_wp2
    exact ⟨rfl, rfl, HS.out⟩
  · rfl
  (try simp only [Act.put, List.setIfInBounds_toArray, List.set_cons_succ, List.set_cons_zero])
  apply walked_cons
  · intro wS hS
    have HS := Lib.hid hS
    clear hS
    go_wp2
    exact ⟨rfl, rfl, HS.out⟩
  · rfl
  (try simp only [Act.put, List.setIfInBounds_toArray, List.set_cons_succ, List.set_cons_zero])
  apply walked_cons
  · intro wS hS
    have HS := Lib.hid hS
    clear hS
    go_wp2
    exact ⟨rfl, rfl, HS.out⟩
  · rfl
  (try simp only [Act.put, List.setIfInBounds_toArray, List.set_cons_succ, List.set_cons_zero])
  apply walked_cons
  · intro wS hS
    have HS := Lib.hid hS
    clear hS
    go_wp2
    exact ⟨rfl, rfl, HS.out⟩
  · rfl
  (try simp only [Act.put, List.setIfInBounds_toArray, List.set_cons_succ, List.set_cons_zero])
  apply walked_cons
  · intro wS hS
    have HS := Lib.hid hS
    clear hS
    go_wp2
    exact ⟨rfl, rfl, HS.out⟩
  · rfl
  (try simp only [Act.put, List.setIfInBounds_toArray, List.set_cons_succ, List.set_cons_zero])
  apply walked_cons
  · intro wS hS
    obtain ⟨k9, -, -⟩ := of_block (keep_old hS HL.out.2.2.2.2.2)
    have HS := Lib.hid hS
    clear hS
    go_wp2
    exact ⟨rfl, rfl, HS.out⟩
  · rfl
  (try simp only [Act.put, List.setIfInBounds_toArray, List.set_cons_succ, List.set_cons_zero])
  apply walked_cons
  · intro wS hS
    have HS := Lib.hid hS
    clear hS
    go_wp2
    exact ⟨rfl, rfl, HS.out⟩
  · rfl
  (try simp only [Act.put, List.setIfInBounds_toArray, List.set_cons_succ, List.set_cons_zero])
  apply walked_cons
  · intro wS hS
    have HS := Lib.hid hS
    clear hS
    go_wp2
    exact ⟨rfl, rfl, HS.out⟩
  · rfl
  (try simp only [Act.put, List.setIfInBounds_toArray, List.set_cons_succ, List.set_cons_zero])
  apply walked_cons
  · intro wS hS
    have HS := Lib.hid hS
    clear hS
    go_wp2
    exact ⟨rfl, rfl, HS.out⟩
  · rfl
  (try simp only [Act.put, List.setIfInBounds_toArray, List.set_cons_succ, List.set_cons_zero])
  apply walked_nil
  intro wS hS
  have HS := Lib.hid hS
  clear hS
  go_wp2
  go_ret
  exact ⟨rfl, old_then HOW.out HS.out⟩
end Go.Proofs.Ytlbehhbicmmdoaa

