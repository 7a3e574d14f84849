/- Texts on the way to the statement NestedWalks, several in one file: each part says what it is. -/
import Derived.Test.YtlbehhbicmmdoaaKWK
namespace Go.Proofs.Ytlbehhbicmmdoaa
set_option linter.unusedVariables false
set_option linter.unusedSimpArgs false
open Go.RowKit
set_option maxHeartbeats 16000000 in
set_option maxRecDepth 100000 in
theorem docWalk_kind {w : World} {dm : Nat} {pgs : Nat → List Nat} {wd : Nat → Nat} (hD : DocM w dm 40 pgs) (hw : ∀ a, okM 40 a = true → getN (pgs (a / 4096)) (a % 4096) 8 = wd a) (hraw : ∀ a, rawM 40 wd a < 18446744073709551616) (two root va : Nat) (htwo : two < 18446744073709551616) (hroot : root < 18446744073709551616) (hva : va < 18446744073709551616) (access : Int) (hi : ¬ 281474976710656 ≤ va) (hr : ¬ (root % 4096 ≠ 0 ∨ 1099511627776 ≤ root)) (hx : ((walkN (raw1N (rawM 40 wd) (okM 40) two) (ok1N (rawM 40 wd) (okM 40) two) 1 va 4 0 root).2 ≠ -1 ∧ (walkN (raw1N (rawM 40 wd) (okM 40) two) (ok1N (rawM 40 wd) (okM 40) two) 1 va 4 0 root).2 ≠ 0)) :
    Calls Try.prog 37 #[.pointer (some ⟨dm, 0, none⟩), .int .u64 (two : Nat), .bool true, .int .u64 (root : Nat), .int .u64 (va : Nat), .int .i64 access] w (RetDoc w (nestN (rawM 40 wd) (okM 40) two true root va access)) := by
  obtain ⟨sto, hsto⟩ : ∃ sto, (access == 2) = sto := ⟨_, rfl⟩
  have hsd : decide (access = 2) = sto := by rw [← hsto]; rfl
  have HSD := Lib.hid hsd
  obtain ⟨q, hq⟩ : ∃ q, nestN (rawM 40 wd) (okM 40) two true root va access = q := ⟨_, rfl⟩
  rw [hq]
  have HQ := Lib.hid hq
  have hsec : ∀ y, Old w y → ∀ a, a < 18446744073709551616 → ∀ ac, Calls Try.prog 34 #[.pointer (some ⟨dm, 0, none⟩), .int .u64 (two : Nat), .int .u64 (a : Nat), .int .i64 ac] y (RetDoc y (secondN (rawM 40 wd) (okM 40) two a ac)) := fun y hy a ha ac => docSecond_calls (docM_old hD hy) hw hraw two a htwo ha ac
  have hwc : ∀ y, Old w y → ∀ a, a < 18446744073709551616 → Calls Try.prog 61 #[.pointer (some ⟨dm, 0, none⟩), .int .u64 (a : Nat)] y (RetB y (.tuple #[.int .u64 (rawM 40 wd a : Nat), .bool (okM 40 a)])) := fun y hy a ha => word_calls (docM_old hD hy) hw a ha
  have HU := Lib.hid (And.intro htwo (And.intro hroot (And.intro hva (And.intro hsec (And.intro hwc hraw)))))
  clear hD hw hraw hsd hq hsec hwc htwo hroot hva
  go_enter Try.func37, Try.ntmps37
  go_upto_region 2 with (fail)
  have hH := holds_new #[Value.int .i64 0, .int .i64 0, .int .i64 0, .int .u64 0, .bool false] 67 (holds_new #[Value.int .i64 0, .int .u64 0, .bool false, .bool false, .bool false, .bool false, .bool false, .bool false] 77 (holds_nil w))
  simp only [World.size_alloc] at hH
  have hsz : ((w.alloc (.cells #[Value.int .i64 0, .int .u64 0, .bool false, .bool false, .bool false, .bool false, .bool false, .bool false] 77)).alloc (.cells #[Value.int .i64 0, .int .i64 0, .int .i64 0, .int .u64 0, .bool false] 67)).heap.size = w.heap.size + 1 + 1 := by simp only [World.size_alloc]
  generalize ((w.alloc (.cells #[Value.int .i64 0, .int .u64 0, .bool false, .bool false, .bool false, .bool false, .bool false, .bool false] 77)).alloc (.cells #[Value.int .i64 0, .int .i64 0, .int .i64 0, .int .u64 0, .bool false] 67)) = X1 at *
  obtain ⟨b9, hb9⟩ : ∃ b9, b9 = w.heap.size + 1 := ⟨_, rfl⟩
  obtain ⟨b8, hb8⟩ : ∃ b8, b8 = w.heap.size := ⟨_, rfl⟩
  rw [← hb9, ← hb8] at hH
  rw [← hb9, ← hb8]
  have HB := Lib.hid (And.intro hb8 (And.intro hb9 hsz))
  have HNE : Hid (b8 ≠ b9 ∧ w.heap.size ≤ b8 ∧ w.heap.size ≤ b9) := Lib.hid (by omega)
  obtain ⟨hO, hK9, hK8, -⟩ := id hH
  have HK := Lib.hid (And.intro hO (And.intro hK9 hK8))
  clear hb8 hb9 hsz hH hO hK9 hK8
  have hi1 : decide ((281474976710656 : Int) ≤ (va : Int)) = false := decide_eq_false (by omega)
  have hr1 : ((root : Int) % 4096 != 0) = false := by simp; omega
  have hr2 : decide ((1099511627776 : Int) ≤ (root : Int)) = false := decide_eq_false (by omega)
  have hqd := HQ.out
  unfold nestN at hqd
  rw [HSD.out] at hqd
  replace hqd := ((if_neg hi).trans ((if_neg (by simp)).trans (if_neg hr))).symm.trans hqd
  have hok := walk_ok (raw1N (rawM 40 wd) (okM 40) two) (ok1N (rawM 40 wd) (okM 40) two) 1 va 4 0 root rfl (by decide)
  have hstart : DOn (rawM 40 wd) (okM 40) two va root [] [] _ _ := don_start root
  have hlen := ask_length (raw := raw1N (rawM 40 wd) (okM 40) two) (ok := ok1N (rawM 40 wd) (okM 40) two) (st := 1) (addr := va) 4 0 root
  dsimp only at hqd
  generalize walkN (raw1N (rawM 40 wd) (okM 40) two) (ok1N (rawM 40 wd) (okM 40) two) 1 va 4 0 root = Rr at *
  generalize askN (raw1N (rawM 40 wd) (okM 40) two) (ok1N (rawM 40 wd) (okM 40) two) 1 va 4 0 root = Z at *
  have HX := Lib.hid hx
  have HQD := Lib.hid hqd
  have HOK := Lib.hid (And.intro hok (And.intro hstart hlen))
  clear hqd hok hstart hlen hi hr HQ hx
  go_upto_region 10 with (fail)
  have hbb := new_block X1 (.cells #[Value.int .i64 0, .int .i64 0, .int .i64 0, .int .u64 0, .bool false] 67)
  have hO2 := old_alloc (old_refl X1) (.cells #[Value.int .i64 0, .int .i64 0, .int .i64 0, .int .u64 0, .bool false] 67)
  generalize X1.alloc (.cells #[Value.int .i64 0, .int .i64 0, .int .i64 0, .int .u64 0, .bool false] 67) = X2 at *
  obtain ⟨bb, hbbe⟩ : ∃ bb, bb = X1.heap.size := ⟨_, rfl⟩
  rw [← hbbe] at hbb ⊢
  have HK2 := Lib.hid (And.intro (old_then HK.out.1 hO2) (And.intro (keep_old hO2 HK.out.2.1) (And.intro (keep_old hO2 HK.out.2.2) (And.intro hbb (show b8 < bb ∧ b9 < bb ∧ w.heap.size ≤ bb by have := HB.out; omega)))))
  have hbg := begin_calls 1 root va X2
  clear hbb hO2 hbbe
  go_wp2_with fail
  (with_reducible refine hbg.mono ?_)
  rintro e x3 ⟨rfl, hI3, hO3⟩
  obtain ⟨pb, hpb⟩ : ∃ pb, pb = X2.heap.size := ⟨_, rfl⟩
  rw [← hpb] at hI3 ⊢
  have HI3 := Lib.hid (And.intro hI3 (And.intro hO3 (And.intro hpb (show bb < pb by have := lt_of_block HK2.out.2.2.2.1; omega))))
  clear hbg hI3 hO3 hpb hi1 hr1 hr2
  go_wp2
  refine wp_loopF [false, false, false, false, false, false, false, false, false, false, false, false, false, false, false, false, true, true, false, false, true, true, true, true, true, true, false, false, false, false, false, false, false, false, false, false, false, false, false, false, false, false, false, false, false, false, false, false, false, false, false, false, false, false, false, false, false, false, false, false, false, false, false, false, true, true, true, true, true, true, true, true, true, true, true, true, true, true, true, true, true, true, true, true, true, true, true, true, true, true, true, true, true, true, true, true, true, true, true, true, true, true, true, true, true, true, true, true, true, true, true, true, true, true, true, true, true, true, true] (fun f y => ∃ (lv table : Nat) (v : Value) (L0 : List St) (al : List Nat) (kind : Int) (over : Bool) (b5 : F5), f 16 = .int .i64 (costsN (rawM 40 wd) (okM 40) two al : Nat) ∧ f 17 = .int .i64 (lv : Nat) ∧ al.length ≤ 4 ∧ IsW y (pb + 1) pb 1 table va v L0 kind over ∧ Only (fun b => (b = pb ∨ b = bb) ∨ pb + 1 ≤ b) x3 y ∧
    y.heap[bb]? = some (.cells b5.cells 67) ∧
    (over = false → kind = 4 ∧ lv = L0.length ∧ DOn (rawM 40 wd) (okM 40) two va table L0 al Rr Z ∧ freshV (f 84) (f 25) = true) ∧ (over = true → Rr = (L0, kind) ∧ Z = al ∧ (kind = -1 → b5 = keptN (rawM 40 wd) (okM 40) two sto al))) (fun f => 2 * (5 - (intOf (f 17)).toNat) + (bif freshV (f 84) (f 25) then 1 else 0)) ?start2 ?round2
  case start2 =>
    refine ⟨0, root, _, [], [], 4, _, F0, rfl, rfl, by simp, HI3.out.1, Only.refl _ _, keep_old HI3.out.2.1 HK2.out.2.2.2.1, fun _ => ⟨rfl, rfl, HOK.out.2.1, rfl⟩, fun h => ?_⟩
    exact absurd h (by decide)
  case round2 =>
    intro f2 wq hrel J2 K2 hJ2 hM2
    dsimp only [mergeA, mergeL, Nat.reduceAdd]
    obtain ⟨lv, table, v, L0, al, kind, over, b5, h16, h17, hal4, hI, hOn, hB5, hf, ht⟩ := hrel
    rw [h16, h17]
    obtain ⟨C, hC⟩ : ∃ C, costsN (rawM 40 wd) (okM 40) two al = C := ⟨_, rfl⟩
    have hC20 : C ≤ 20 := by rw [← hC]; exact costs_4 hal4
    rw [hC]
    have H17 := Lib.hid h17
    obtain ⟨k1, q1, z1⟩ := of_block hI.hp
    have HI2 := Lib.hid (And.intro hI (And.intro hOn (And.intro hB5 hC)))
    have HFT := Lib.hid (And.intro hf ht)
    have HOW : Hid (Old w wq) := Lib.hid (Only.to_below (((Only.of_below HK2.out.1).step (Only.of_below HI3.out.2.1) (fun b hb e => e)).step hOn (fun b hb e => by have := HI3.out.2.2; have := HK2.out.1.size; have := HK2.out.2.2.2.2; omega)))
    have c20 : (C : Int) ≤ 20 := by omega
    have HC4 := Lib.hid hal4
    clear h16 h17 hI hOn hB5 hf ht hC hC20 hal4
    cases over
    case true =>
      obtain ⟨hRe, hZe, hb5⟩ := HFT.out.2 rfl
      clear HFT
      subst hRe
      subst hZe
      have hqd := HQD.out
      have hok := HOK.out.1
      have hx := HX.out
      clear HQD HOK HX
      (try dsimp only at hqd)
      (try dsimp only at hok)
      (try dsimp only at hx)
      have HQD := Lib.hid hqd
      have HOK := Lib.hid hok
      clear hqd hok
      obtain ⟨a3, c3, rfl, hl3, hm3', -, q3⟩ := own_value HI2.out.1.own
      have HOWN := Lib.hid (And.intro HI2.out.1.own q3)
      have hnb : ∀ b, b < bb → ¬ ((b = pb ∨ b = bb) ∨ pb + 1 ≤ b) := fun b hb => by have := HI3.out.2.2.2; omega
      have K9q := keep_only HI2.out.2.1 (hnb b9 (by have := HK2.out.2.2.2.2; omega)) (keep_old HI3.out.2.1 HK2.out.2.1)
      have K8q := keep_only HI2.out.2.1 (hnb b8 (by have := HK2.out.2.2.2.2; omega)) (keep_old HI3.out.2.1 HK2.out.2.2.1)
      have HKQ := Lib.hid (And.intro K8q (And.intro K9q (And.intro HI2.out.2.2.1 HOW.out)))
      have HNB : Hid (bb ≠ b8 ∧ bb ≠ b9) := Lib.hid (by have := HK2.out.2.2.2.2; omega)
      have HB5 := Lib.hid hb5
      clear hl3 hm3' q3 hnb K9q K8q hb5
      go_upto_region 26 with (fail)
      clear k1 q1 z1
      refine wp_region_walked (S := Old wq) (by kernel_rfl) (by kernel_rfl) (old_drew (old_refl _)) ?_
      apply walked_cons
      · intro wS hS
        have HS := Lib.hid hS
        clear hS
        go_wp2
        exact ⟨rfl, rfl, HS.out⟩
      · rfl
      (try simp only [Act.put, List.setIfInBounds_toArray, List.set_cons_succ, List.set_cons_zero])
      apply walked_cons
      · intro wS hS
        have HS := Lib.hid hS
        clear hS
        go_wp2
        exact ⟨rfl, rfl, HS.out⟩
      · rfl
      (try simp only [Act.put, List.setIfInBounds_toArray, List.set_cons_succ, List.set_cons_zero])
      apply walked_cons
      · intro wS hS
        have HS := Lib.hid hS
        clear hS
        go_wp2
        exact ⟨rfl, rfl, HS.out⟩
      · rfl
      (try simp only [Act.put, List.setIfInBounds_toArray, List.set_cons_succ, List.set_cons_zero])
      apply walked_cons
      · intro wS hS
        obtain ⟨k9, -, -⟩ := of_block (keep_old hS HI2.out.1.hp)
        have HS := Lib.hid hS
        clear hS
        go_wp2
        exact ⟨rfl, rfl, HS.out⟩
      · rfl
      (try simp only [Act.put, List.setIfInBounds_toArray, List.set_cons_succ, List.set_cons_zero])
      apply walked_cons
      · intro wS hS
        have HS := Lib.hid hS
        clear hS
        go_wp2
        exact ⟨rfl, rfl, HS.out⟩
      · rfl
      (try simp only [Act.put, List.setIfInBounds_toArray, List.set_cons_succ, List.set_cons_zero])
      apply walked_cons
      · intro wS hS
        have HS := Lib.hid hS
        clear hS
        go_wp2
        exact ⟨rfl, rfl, HS.out⟩
      · rfl
      (try simp only [Act.put, List.setIfInBounds_toArray, List.set_cons_succ, List.set_cons_zero])
      apply walked_cons
      · intro wS hS
        have HS := Lib.hid hS
        clear hS
        go_wp2
        exact ⟨rfl, rfl, HS.out⟩
      · rfl
      (try simp only [Act.put, List.setIfInBounds_toArray, List.set_cons_succ, List.set_cons_zero])
      apply walked_cons
      · intro wS hS
        obtain ⟨k9, -, -⟩ := of_block (keep_old hS HI2.out.1.hp)
        have HS := Lib.hid hS
        clear hS
        go_wp2
        exact ⟨rfl, rfl, HS.out⟩
      · rfl
      (try simp only [Act.put, List.setIfInBounds_toArray, List.set_cons_succ, List.set_cons_zero])
      apply walked_cons
      · intro wS hS
        have HS := Lib.hid hS
        clear hS
        go_wp2
        exact ⟨rfl, rfl, HS.out⟩
      · rfl
      (try simp only [Act.put, List.setIfInBounds_toArray, List.set_cons_succ, List.set_cons_zero])
      apply walked_cons
      · intro wS hS
        have HS := Lib.hid hS
        clear hS
        go_wp2
        exact ⟨rfl, rfl, HS.out⟩
      · rfl
      (try simp only [Act.put, List.setIfInBounds_toArray, List.set_cons_succ, List.set_cons_zero])
      apply walked_nil
      intro wS hS
      have hcs0 := own_old HOWN.out.1 hS
      have HCS0 := Lib.hid hcs0
      have HKX := Lib.hid (And.intro (keep_old hS HKQ.out.1) (And.intro (keep_old hS HKQ.out.2.1) (And.intro (keep_old hS HKQ.out.2.2.1) (old_then HKQ.out.2.2.2 hS))))
      clear hS hcs0
      have hK : ¬ kind = -1 := hx.1
      have hk1 : (kind == -1) = false := by simp [hK]
      obtain ⟨m, hmL⟩ : ∃ m, m = L0.length := ⟨_, rfl⟩
      have hn1 : 1 ≤ m := by
        have := HOK.out.some_ hK
        rw [hmL]; exact this
      obtain ⟨s, hs0, hs1, hs⟩ := last_mem (l := L0) (by rw [← hmL]; exact hn1)
      rw [← hmL] at hs
      obtain ⟨f1, f2', f3, f4⟩ := way_at HOK.out.way hs
      have hl4 : m ≤ 4 := by rw [hmL]; exact HOK.out.len
      obtain ⟨g1, rfl⟩ := HOWN.out.2 (by rw [← hmL]; omega)
      have hcs : ∀ (c : Nat) (u : Value), s.cells[c]? = some u → wS.cell? ⟨g1, (m - 1) * 9 + c, none⟩ = some u := fun c u hu => own_cell HCS0.out rfl _ (stCells_get L0 _ s c u hs hu)
      have hlvs : s.lv = m - 1 := by rw [f1]; omega
      have HLV := Lib.hid hlvs
      clear hlvs
      have HS1 := Lib.hid hs1
      have HX := Lib.hid hx
      obtain ⟨slv, sat, sraw, ⟨dk, da, dr, dw, dx, dS⟩⟩ := s
      have hcs2 : ∀ (c : Nat) (u : Value), [Value.int .i64 (slv : Nat), .int .u64 (sat : Nat), .int .u64 (sraw : Nat), .int .i64 dk, .int .u64 (da : Nat), .bool dr, .bool dw, .bool dx, .int .i64 dS][c]? = some u → wS.cell? ⟨g1, (m - 1) * 9 + c, none⟩ = some u := hcs
      have hda : da < 18446744073709551616 := f4
      have HCS := Lib.hid hcs2
      have HDA := Lib.hid hda
      have hlen : L0.length = m := hmL.symm
      rw [hlen]
      have hn1' : ((m - 1 : Nat) : Int) = (m : Int) - 1 := by omega
      have n4 : (m : Int) ≤ 4 := by omega
      have hge : (0 : Int) ≤ (m : Int) - 1 := by omega
      have hlt : (m : Int) - 1 < m := by omega
      have htn : ((m : Int) - 1).toNat = m - 1 := by omega
      have HLEN := Lib.hid hlen
      have HKI := Lib.hid hK
      clear hlen hmL hn1 hs0 hs1 hs f1 f2' f3 f4 hl4 hcs hcs2 hda hK HOK hx HB5
      go_upto_region 30 with (refine wpList_load_at rfl 54 _ rfl g1 ((m - 1) * 9) rfl [Value.int .i64 (slv : Nat), .int .u64 (sat : Nat), .int .u64 (sraw : Nat), .int .i64 dk, .int .u64 (da : Nat), .bool dr, .bool dw, .bool dx, .int .i64 dS] _ HCS.out Try.underlying54 rfl (by kernel_rfl) ?_)
      have hO3 := old_alloc (old_refl wS) (.cells #[Value.int .i64 (slv : Nat), .int .u64 (sat : Nat), .int .u64 (sraw : Nat), .int .i64 dk, .int .u64 (da : Nat), .bool dr, .bool dw, .bool dx, .int .i64 dS] 54)
      have hxb := new_block wS (.cells #[Value.int .i64 (slv : Nat), .int .u64 (sat : Nat), .int .u64 (sraw : Nat), .int .i64 dk, .int .u64 (da : Nat), .bool dr, .bool dw, .bool dx, .int .i64 dS] 54)
      generalize wS.alloc (.cells #[Value.int .i64 (slv : Nat), .int .u64 (sat : Nat), .int .u64 (sraw : Nat), .int .i64 dk, .int .u64 (da : Nat), .bool dr, .bool dw, .bool dx, .int .i64 dS] 54) = X4 at *
      obtain ⟨bl, hbl⟩ : ∃ bl, bl = wS.heap.size := ⟨_, rfl⟩
      rw [← hbl] at hxb ⊢
      have HBL : Hid (bl ≠ b8 ∧ bl ≠ b9) := Lib.hid (by have h1 := lt_of_block HKX.out.1; have h2 := lt_of_block HKX.out.2.1; omega)
      have HK3 := Lib.hid (And.intro (keep_old hO3 HKX.out.1) (And.intro (keep_old hO3 HKX.out.2.1) (And.intro hxb (old_then HKX.out.2.2.2 hO3))))
      clear hO3 hbl HCS hn1' hge hlt htn HKX HCS0 hk1
      have HQ6 : Hid (q = (O0, ⟨1, kind, (slv : Nat), va, sto⟩, C)) := Lib.hid (by
        rw [← HI2.out.2.2.2, ← HQD.out]
        refine ((if_neg HX.out.1).trans (if_pos HX.out.2)).trans ?_
        rw [HS1.out])
      have hk2 : (kind != 0) = true := by simp [HX.out.2]
      obtain ⟨K8, K9, KL, -⟩ := HK3.out
      clear HQD hxb
      go_upto_region 31 with (fail)
      refine wp_region_staged (S := TwoS 8 9 b8 (.cells #[Value.int .i64 0, .int .u64 0, .bool false, .bool false, .bool false, .bool false, .bool false, .bool false] 77) b9 (.cells #[Value.int .i64 1, .int .i64 kind, .int .i64 (slv : Nat), .int .u64 (va : Nat), .bool sto] 67) X4.drew) 11 (by kernel_rfl) (by kernel_rfl) (by kernel_rfl) (by decide) (two_start _) ?_
      apply walkedS_cons
      · intro l9 wS hz hn hS
        have hS9 := two_other 0 (by decide) (by decide) hS
        clear hS
        go_wp2
        exact ⟨rfl, rfl, hS9⟩
      · rfl
      (try simp only [Act.put, List.setIfInBounds_toArray, List.set_cons_succ, List.set_cons_zero])
      apply walkedS_cons
      · intro l9 wS hz hn hS
        have hS9 := two_other 1 (by decide) (by decide) hS
        clear hS
        go_wp2
        exact ⟨rfl, rfl, hS9⟩
      · rfl
      (try simp only [Act.put, List.setIfInBounds_toArray, List.set_cons_succ, List.set_cons_zero])
      apply walkedS_cons
      · intro l9 wS hz hn hS
        have hS9 := two_other 2 (by decide) (by decide) hS
        clear hS
        go_wp2
        exact ⟨rfl, rfl, hS9⟩
      · rfl
      (try simp only [Act.put, List.setIfInBounds_toArray, List.set_cons_succ, List.set_cons_zero])
      apply walkedS_cons
      · intro l9 wS hz hn hS
        have hS9 := two_other 3 (by decide) (by decide) hS
        have c9 := two_cell hS HBL.out.1 HBL.out.2 KL
        clear hS
        go_wp2
        exact ⟨rfl, rfl, hS9⟩
      · rfl
      (try simp only [Act.put, List.setIfInBounds_toArray, List.set_cons_succ, List.set_cons_zero])
      apply walkedS_cons
      · intro l9 wS hz hn hS
        have hS9 := two_other 4 (by decide) (by decide) hS
        clear hS
        go_wp2
        exact ⟨rfl, rfl, hS9⟩
      · rfl
      (try simp only [Act.put, List.setIfInBounds_toArray, List.set_cons_succ, List.set_cons_zero])
      apply walkedS_cons
      · intro l9 wS hz hn hS
        have hS9 := two_other 5 (by decide) (by decide) hS
        clear hS
        go_wp2
        exact ⟨rfl, rfl, hS9⟩
      · rfl
      (try simp only [Act.put, List.setIfInBounds_toArray, List.set_cons_succ, List.set_cons_zero])
      apply walkedS_cons
      · intro l9 wS hz hn hS
        have hS9 := two_other 6 (by decide) (by decide) hS
        clear hS
        go_wp2
        exact ⟨rfl, rfl, hS9⟩
      · rfl
      (try simp only [Act.put, List.setIfInBounds_toArray, List.set_cons_succ, List.set_cons_zero])
      apply walkedS_cons
      · intro l9 wS hz hn hS
        have hS9 := two_other 7 (by decide) (by decide) hS
        clear hS
        go_wp2
        exact ⟨rfl, rfl, hS9⟩
      · rfl
      (try simp only [Act.put, List.setIfInBounds_toArray, List.set_cons_succ, List.set_cons_zero])
      apply walkedS_cons
      · intro l9 wS hz hn hS
        have hb9 := two_first hn hS HNE.out.1 K8
        have hd9 := two_done1 hz (by decide) (by decide) hn HNE.out.1 hS
        refine wpList_store_whole rfl 77 _ _ rfl b8 [Value.int .i64 0, .int .u64 0, .bool false, .bool false, .bool false, .bool false, .bool false, .bool false] rfl rfl 77 _ hb9 (by kernel_rfl) rfl (by intro v hv; simp only [List.mem_cons, List.not_mem_nil, or_false] at hv; rcases hv with rfl | rfl | rfl | rfl | rfl | rfl | rfl | rfl <;> rfl) ?_
        exact ⟨rfl, rfl, hd9⟩
      · rfl
      (try simp only [Act.put, List.setIfInBounds_toArray, List.set_cons_succ, List.set_cons_zero])
      apply walkedS_cons
      · intro l9 wS hz hn hS
        have hb9 := two_second hn hS HNE.out.1 K9
        have hd9 := two_done2 hz (by decide) (by decide) hn hS
        refine wpList_store_whole rfl 67 _ _ rfl b9 [Value.int .i64 1, .int .i64 kind, .int .i64 (slv : Nat), .int .u64 (va : Nat), .bool sto] rfl rfl 67 _ hb9 (by kernel_rfl) rfl (by intro v hv; simp only [List.mem_cons, List.not_mem_nil, or_false] at hv; rcases hv with rfl | rfl | rfl | rfl | rfl <;> rfl) ?_
        exact ⟨rfl, rfl, hd9⟩
      · rfl
      (try simp only [Act.put, List.setIfInBounds_toArray, List.set_cons_succ, List.set_cons_zero])
      apply walkedS_cons
      · intro l9 wS hz hn hS
        have hS9 := two_other 10 (by decide) (by decide) hS
        clear hS
        go_wp2
        exact ⟨rfl, rfl, hS9⟩
      · rfl
      (try simp only [Act.put, List.setIfInBounds_toArray, List.set_cons_succ, List.set_cons_zero])
      apply walkedS_nil
      intro l9 wS hz hall hS
      obtain rfl := two_all (hall 8 (by decide)) (hall 9 (by decide)) hS
      clear hS hall hz l9
      show wpList _ _ _ [] _ _
      go_wp2
      have r8 : (putB (putB X4.drew b8 (.cells #[Value.int .i64 0, .int .u64 0, .bool false, .bool false, .bool false, .bool false, .bool false, .bool false] 77)) b9 (.cells #[Value.int .i64 1, .int .i64 kind, .int .i64 (slv : Nat), .int .u64 (va : Nat), .bool sto] 67)).heap[b8]? = some (.cells #[Value.int .i64 0, .int .u64 0, .bool false, .bool false, .bool false, .bool false, .bool false, .bool false] 77) := by rw [putB_other _ (Ne.symm HNE.out.1)]; exact putB_same _ (lt_of_block (show X4.drew.heap[b8]? = _ from K8))
      have r9 : (putB (putB X4.drew b8 (.cells #[Value.int .i64 0, .int .u64 0, .bool false, .bool false, .bool false, .bool false, .bool false, .bool false] 77)) b9 (.cells #[Value.int .i64 1, .int .i64 kind, .int .i64 (slv : Nat), .int .u64 (va : Nat), .bool sto] 67)).heap[b9]? = some (.cells #[Value.int .i64 1, .int .i64 kind, .int .i64 (slv : Nat), .int .u64 (va : Nat), .bool sto] 67) := putB_same _ (by rw [putB_size]; exact lt_of_block (show X4.drew.heap[b9]? = _ from K9))
      obtain ⟨k8, -, -⟩ := of_block r8
      obtain ⟨k9, -, -⟩ := of_block r9
      refine bodyPost_ret (by simp [results, Try.results37, go_sem, k8, k9]; try rfl) rfl ?_
      rw [HQ6.out]
      exact ⟨rfl, old_put (old_put (old_drew HK3.out.2.2.2) _ HNE.out.2.1) _ HNE.out.2.2⟩
    case false =>
      obtain ⟨hk4, hlv, hdo, hfr⟩ := HFT.out.1 rfl
      subst hk4 hlv
      clear HFT
      have l4 : (L0.length : Int) ≤ 3 := by have := hdo.l3; omega
      obtain ⟨T, hT⟩ : ∃ T, atN table va L0.length = T := ⟨_, rfl⟩
      have hat := atW_calls HI2.out.1 HU.out.2.2.1 hdo.l3
      rw [hT] at hat
      have hTl : T < 18446744073709551616 := by rw [← hT]; exact atN_lt _ _ _
      obtain ⟨q2, hq2⟩ : ∃ q2, secondN (rawM 40 wd) (okM 40) two T 1 = q2 := ⟨_, rfl⟩
      have hsk := second_ok (raw := rawM 40 wd) (ok := okM 40) two T 1
      have hsfr := second_fr (raw := rawM 40 wd) (ok := okM 40) two T 1
      have hcs := costs_snocD (raw := rawM 40 wd) (ok := okM 40) (two := two) (al := al) (T := T)
      have hks := kept_snoc (raw := rawM 40 wd) (ok := okM 40) (two := two) (sto := sto) (l := al) (a := T)
      have hok1 : ok1N (rawM 40 wd) (okM 40) two T = (decide (q2.2.1.k = 0) && okM 40 (q2.1.fr * 4096 + T % 4096)) := by unfold ok1N; rw [hq2]
      have hrw1 : raw1N (rawM 40 wd) (okM 40) two T = if ok1N (rawM 40 wd) (okM 40) two T then rawM 40 wd (q2.1.fr * 4096 + T % 4096) else 0 := by unfold raw1N; rw [hq2]
      have hft1 : faultN (rawM 40 wd) (okM 40) two T (al.length : Int) sto = if q2.2.1.k = 0 then ⟨2, 4, (al.length : Int), T, sto⟩ else ⟨q2.2.1.st, q2.2.1.k, (al.length : Int), q2.2.1.ad, sto⟩ := by unfold faultN; rw [hq2]
      have hsc := fun y (hy : Old wq y) => HU.out.2.2.2.1 y (old_then HOW.out hy) T hTl 1
      rw [hq2] at hsk hsfr hcs
      simp only [hq2] at hsc
      obtain ⟨⟨ofr, oip, o1, o2, o3, o4, o5, o6⟩, ⟨fst, fk, flv, fad, fsto⟩, nq⟩ := q2
      have n4' : nq ≤ 4 := hsk.n4
      have n4 : (nq : Int) ≤ 4 := by omega
      have HF := Lib.hid (And.intro hdo (And.intro hfr (And.intro hT (And.intro hTl (And.intro hsk (And.intro hsfr (And.intro hcs (And.intro hks (And.intro hok1 (And.intro hrw1 hft1))))))))))
      have HSC := Lib.hid hsc
      clear n4' hdo hfr hT hTl hq2 hsk hsfr hcs hks hok1 hrw1 hft1 hsc
      go_wp2_with fail
      (with_reducible refine hat.mono ?_)
      rintro e y1 ⟨rfl, hO1⟩
      have hc := HSC.out y1 hO1
      have HO1 := Lib.hid hO1
      clear hat hO1 k1 q1 z1
      go_wp2_with fail
      (with_reducible refine hc.mono ?_)
      rintro e y2 ⟨rfl, hO2⟩
      have HO2 := Lib.hid (old_then HO1.out hO2)
      clear hc hO2
      dsimp only [O8.cells, F5.cells]
      obtain ⟨Y2, hY2, hOY2, hob1, hfb1, hsY2, i1, i2⟩ := pair_new y2 #[Value.int .i64 0, .int .u64 0, .bool false, .bool false, .bool false, .bool false, .bool false, .bool false] #[Value.int .i64 0, .int .i64 0, .int .i64 0, .int .u64 0, .bool false] #[Value.int .i64 (ofr : Nat), .int .u64 (oip : Nat), .bool o1, .bool o2, .bool o3, .bool o4, .bool o5, .bool o6] #[Value.int .i64 fst, .int .i64 fk, .int .i64 flv, .int .u64 (fad : Nat), .bool fsto] 77 67
      have HY2 := Lib.hid (And.intro hOY2 (And.intro hob1 (And.intro hfb1 hsY2)))
      have HEY2 := Lib.hid hY2
      have I1Y2 := Lib.hid i1
      have I2Y2 := Lib.hid i2
      clear hY2 hOY2 hob1 hfb1 hsY2 i1 i2
      go_upto_region 14 with (first | (refine wpList_store_whole rfl 77 _ _ rfl y2.heap.size [Value.int .i64 (ofr : Nat), .int .u64 (oip : Nat), .bool o1, .bool o2, .bool o3, .bool o4, .bool o5, .bool o6] rfl rfl 77 _ I1Y2.out (by kernel_rfl) rfl (by intro v hv; simp only [List.mem_cons, List.not_mem_nil, or_false] at hv; rcases hv with rfl | rfl | rfl | rfl | rfl | rfl | rfl | rfl <;> rfl) ?_) | (refine wpList_store_whole rfl 67 _ _ rfl (y2.heap.size + 1) [Value.int .i64 fst, .int .i64 fk, .int .i64 flv, .int .u64 (fad : Nat), .bool fsto] rfl rfl 67 _ I2Y2.out (by kernel_rfl) rfl (by intro v hv; simp only [List.mem_cons, List.not_mem_nil, or_false] at hv; rcases hv with rfl | rfl | rfl | rfl | rfl <;> rfl) ?_))
      rw [← HEY2.out]
      clear HEY2 I1Y2 I2Y2
      obtain ⟨fb1, hfb1⟩ : ∃ fb1, fb1 = y2.heap.size + 1 := ⟨_, rfl⟩
      obtain ⟨ob1, hob1⟩ : ∃ ob1, ob1 = y2.heap.size := ⟨_, rfl⟩
      rw [← hfb1, ← hob1]
      rw [← hfb1, ← hob1] at HY2
      have HBY2 := Lib.hid (And.intro hob1 hfb1)
      clear hfb1 hob1
      have hOY := old_then HO2.out HY2.out.1
      have HIY := Lib.hid (And.intro (isW_old HI2.out.1 hOY) (And.intro (HI2.out.2.1.trans ((Only.of_below hOY).mono fun b _ f => f.elim)) (And.intro (keep_old hOY HI2.out.2.2.1) (And.intro (old_then HOW.out hOY) (show bb < ob1 ∧ bb < fb1 by have h1 := lt_of_block HI2.out.2.2.1; have h2 := HO2.out.size; have h3 := HBY2.out; omega)))))
      obtain ⟨j1, -, -⟩ := of_block HY2.out.2.1
      obtain ⟨j2, -, -⟩ := of_block HY2.out.2.2.1
      clear hOY
      by_cases hk0 : fk = 0
      · -- a word is asked for
        obtain ⟨hF0, -⟩ := HF.out.2.2.2.2.1.yes hk0
        have e0 : fst = 0 ∧ flv = 0 ∧ fad = 0 ∧ fsto = false := by
          have hF1 : (⟨fst, fk, flv, fad, fsto⟩ : F5) = F0 := hF0
          injection hF1 with a1 a2 a3 a4 a5
          exact ⟨a1, a3, a4, a5⟩
        obtain ⟨rfl, -, -, -⟩ := e0
        obtain ⟨A, hA⟩ : ∃ A, ofr * 4096 + T % 4096 = A := ⟨_, rfl⟩
        obtain ⟨TM, hTM⟩ : ∃ TM, T % 4096 = TM := ⟨_, rfl⟩
        have hTMi : (T : Int) % 4096 = (TM : Int) := by rw [← hTM]; rfl
        have hsf : ofr * 4096 + 4095 < 18446744073709551616 := HF.out.2.2.2.2.2.1
        obtain ⟨u1, u2, u3⟩ := dw_addr ofr TM (by rw [← hTM]; exact Nat.mod_lt _ (by decide)) hsf
        have hAT : ofr * 4096 + TM = A := by rw [← hTM]; exact hA
        rw [hAT] at u3
        have hAl : A < 18446744073709551616 := by
          have h1 : TM < 4096 := by rw [← hTM]; exact Nat.mod_lt _ (by decide)
          rw [← hAT]; omega
        obtain ⟨M4, hM4⟩ : ∃ M4 : Int, (ofr : Int) * 4096 = M4 := ⟨_, rfl⟩
        obtain ⟨okA, hokA⟩ : ∃ okA, okM 40 A = okA := ⟨_, rfl⟩
        obtain ⟨V, hV⟩ : ∃ V, rawM 40 wd A = V := ⟨_, rfl⟩
        have hVl : V < 18446744073709551616 := by rw [← hV]; exact HU.out.2.2.2.2.2 A
        have hwd := HU.out.2.2.2.2.1 Y2 HIY.out.2.2.2.1 A hAl
        rw [hokA, hV] at hwd
        have hok1 : ok1N (rawM 40 wd) (okM 40) two T = okA := by
          rw [HF.out.2.2.2.2.2.2.2.2.1]
          (try dsimp only)
          rw [hA, hokA, decide_eq_true hk0]; rfl
        have hft := HF.out.2.2.2.2.2.2.2.2.2.2
        (try dsimp only at hft)
        rw [if_pos hk0] at hft
        have HW := Lib.hid (And.intro hok1 (And.intro hVl (And.intro hft (And.intro hA hV))))
        clear hF0 hAT hA hTM hsf hokA hV hVl hok1 hft hAl hM4
        go_wp2_with fail
        (with_reducible refine hwd.mono ?_)
        rintro e y3 ⟨rfl, hO3⟩
        have HI3' := Lib.hid (And.intro (isW_old HIY.out.1 hO3) (And.intro (HIY.out.2.1.trans ((Only.of_below hO3).mono fun b _ f => f.elim)) (And.intro (keep_old hO3 HIY.out.2.2.1) (old_then HIY.out.2.2.2.1 hO3))))
        clear hwd hO3 j1 j2 u1 u2 u3
        cases okA
        case false =>
          obtain ⟨hRe, hZe⟩ := don_no HF.out.1 HF.out.2.2.1 HW.out.1
          have hcs := HF.out.2.2.2.2.2.2.1
          rw [HW.out.1, HI2.out.2.2.2] at hcs
          have hks := HF.out.2.2.2.2.2.2.2.1
          rw [HW.out.1, HW.out.2.2.1] at hks
          have HE := Lib.hid (And.intro hRe (And.intro hZe (And.intro hcs hks)))
          have hb3 := HI3'.out.2.2.1
          have HB3 := Lib.hid hb3
          clear hRe hZe hcs hks hb3
          go_upto_region 22 with (refine wpList_store_whole rfl 67 _ _ rfl bb [Value.int .i64 2, .int .i64 4, .int .i64 (L0.length : Nat), .int .u64 (T : Nat), .bool sto] rfl rfl 67 _ HB3.out (by kernel_rfl) rfl (by intro v hv; simp only [List.mem_cons, List.not_mem_nil, or_false] at hv; rcases hv with rfl | rfl | rfl | rfl | rfl <;> rfl) ?_)
          have hOp : Only (fun b => b = bb) y3 (putB y3 bb (.cells #[Value.int .i64 2, .int .i64 4, .int .i64 (L0.length : Nat), .int .u64 (T : Nat), .bool sto] 67)) := (Only.refl _ y3).putB _ (fun _ => rfl)
          have hbn := putB_same (.cells #[Value.int .i64 2, .int .i64 4, .int .i64 (L0.length : Nat), .int .u64 (T : Nat), .bool sto] 67) (lt_of_block HB3.out)
          generalize putB y3 bb (.cells #[Value.int .i64 2, .int .i64 4, .int .i64 (L0.length : Nat), .int .u64 (T : Nat), .bool sto] 67) = y4 at *
          have hI4 := isW_put HI3'.out.1 hOp (show ¬ pb = bb by have := HI3.out.2.2.2; omega) (fun b hb e => by have := HI3.out.2.2.2; omega)
          have HI4 := Lib.hid (And.intro (HI3'.out.2.1.trans (hOp.mono fun b _ e => .inl (.inr e))) hbn)
          have hg : Calls Try.prog 20 #[.pointer (some ⟨pb, 0, none⟩), .int .u64 0, .bool false] y4 (fun e y => e = .returned (.tuple #[]) ∧ IsW y (pb + 1) pb 1 table va v L0 (-1) true ∧ Only (fun b => b = pb) y4 y) := give_no hI4 0
          clear hOp hbn hI4
          go_wp2_with fail
          (with_reducible refine hg.mono ?_)
          rintro e y5 ⟨rfl, hI5, hO5⟩
          have HY5 := Lib.hid (And.intro hI5 hO5)
          clear hI5 hO5 hg
          go_wp2
          refine Met.intro (hJ2 _ _ (by kernel_rfl) ?_ ?_)
          · refine ⟨L0.length, table, v, L0, al ++ [T], -1, true, ⟨2, 4, (al.length : Int), T, sto⟩, ?_, rfl, ?_, HY5.out.1, HI4.out.1.trans (HY5.out.2.mono fun b _ e => .inl (.inl e)), ?_, fun h => (by cases h), fun _ => ⟨HE.out.1, HE.out.2.1, fun _ => HE.out.2.2.2.symm⟩⟩
            · rw [HE.out.2.2.1]; show Value.int .i64 ((C : Int) + nq) = _; simp
            · have := HF.out.1.la; have := HF.out.1.l3; simp; omega
            · rw [HF.out.1.la]; exact keep_only HY5.out.2 (show ¬ bb = pb by have := HI3.out.2.2.2; omega) HI4.out.2
          · rw [H17.out]
            exact dwMu0 _ _ _ rfl HF.out.2.1
        case true =>
          have hrw : raw1N (rawM 40 wd) (okM 40) two T = V := by
            rw [HF.out.2.2.2.2.2.2.2.2.2.1, HW.out.1, if_pos rfl]
            (try dsimp only)
            rw [HW.out.2.2.2.1]; exact HW.out.2.2.2.2
          have hend := don_yes HF.out.1 HF.out.2.2.1 HW.out.1 hrw
          have hcs := HF.out.2.2.2.2.2.2.1
          rw [HW.out.1, HI2.out.2.2.2] at hcs
          have hks := HF.out.2.2.2.2.2.2.2.1
          rw [HW.out.1] at hks
          have hg := give_yes HI3'.out.1 HU.out.2.2.1 HF.out.1.l3 V HW.out.2.1
          rw [HF.out.2.2.1] at hg
          have HE := Lib.hid (And.intro hend hcs)
          clear hend hcs hks hrw
          go_wp2_with fail
          (with_reducible refine hg.mono ?_)
          rintro e y5 ⟨rfl, ⟨v', hI5⟩, hO5⟩
          have HY5 := Lib.hid (And.intro hI5 hO5)
          clear hI5 hO5 hg
          go_wp2
          refine Met.intro (hJ2 _ _ (by kernel_rfl) ?_ ?_)
          · refine ⟨L0.length + 1, _, v', _, al ++ [T], _, _, b5, ?_, by show Value.int .i64 ((L0.length : Int) + 1) = _; simp, ?_, HY5.out.1, HI3'.out.2.1.trans (HY5.out.2.mono fun b _ e => by rcases e with e | e; exact .inl (.inl e); exact .inr e), ?_, fun h => ⟨(HE.out.1.1 h).1, by simp, (HE.out.1.1 h).2, rfl⟩, fun h => ⟨(HE.out.1.2 h).1, (HE.out.1.2 h).2, fun hk => ?_⟩⟩
            · rw [HE.out.2]; show Value.int .i64 ((C : Int) + nq + 1) = _; simp; omega
            · have := HF.out.1.la; have := HF.out.1.l3; simp; omega
            · exact keep_only HY5.out.2 (show ¬ (bb = pb ∨ pb + 1 ≤ bb) by have := HI3.out.2.2.2; omega) HI3'.out.2.2.1
            · exact absurd hk (giveK_ne _ _)
          · rw [H17.out]
            exact dwMu (L0.length : Int) ((L0.length : Int) + 1) (by omega) (by omega) (by have := HF.out.1.l3; omega) _ _
      · -- the second stage lacks it
        obtain ⟨-, hst2, -⟩ := HF.out.2.2.2.2.1.no hk0
        have hst2' : fst = 2 := hst2
        subst hst2'
        have hok1 : ok1N (rawM 40 wd) (okM 40) two T = false := by
          rw [HF.out.2.2.2.2.2.2.2.2.1]
          (try dsimp only)
          rw [decide_eq_false hk0]; rfl
        have hft := HF.out.2.2.2.2.2.2.2.2.2.2
        (try dsimp only at hft)
        rw [if_neg hk0] at hft
        obtain ⟨hRe, hZe⟩ := don_no HF.out.1 HF.out.2.2.1 hok1
        have hcs := HF.out.2.2.2.2.2.2.1
        rw [hok1, HI2.out.2.2.2] at hcs
        have hks := HF.out.2.2.2.2.2.2.2.1
        rw [hok1, hft] at hks
        have HE := Lib.hid (And.intro hRe (And.intro hZe (And.intro hcs hks)))
        have hb3 := HIY.out.2.2.1
        have HB3 := Lib.hid hb3
        have HSZ := Lib.hid (lt_of_block hb3)
        clear hst2 hok1 hft hRe hZe hcs hks hb3 hk0
        go_upto_region 17 with (refine wpList_store_whole rfl 67 _ _ rfl bb [Value.int .i64 2, .int .i64 fk, .int .i64 flv, .int .u64 (fad : Nat), .bool fsto] rfl rfl 67 _ HB3.out (by kernel_rfl) rfl (by intro v hv; simp only [List.mem_cons, List.not_mem_nil, or_false] at hv; rcases hv with rfl | rfl | rfl | rfl | rfl <;> rfl) ?_)
        have hOp : Only (fun b => b = bb) Y2 (putB Y2 bb (.cells #[Value.int .i64 2, .int .i64 fk, .int .i64 flv, .int .u64 (fad : Nat), .bool fsto] 67)) := (Only.refl _ Y2).putB _ (fun _ => rfl)
        have hbn := putB_same (.cells #[Value.int .i64 2, .int .i64 fk, .int .i64 flv, .int .u64 (fad : Nat), .bool fsto] 67) HSZ.out
        generalize putB Y2 bb (.cells #[Value.int .i64 2, .int .i64 fk, .int .i64 flv, .int .u64 (fad : Nat), .bool fsto] 67) = y3 at *
        obtain ⟨jb, jf, jz⟩ := of_block hbn
        have s1 : y3.setCell ⟨bb, 2, none⟩ (.int .i64 (L0.length : Nat)) = putB y3 bb (.cells #[Value.int .i64 2, .int .i64 fk, .int .i64 (L0.length : Nat), .int .u64 (fad : Nat), .bool fsto] 67) := by rw [set_of hbn]; rfl
        have s2 : (putB y3 bb (.cells #[Value.int .i64 2, .int .i64 fk, .int .i64 (L0.length : Nat), .int .u64 (fad : Nat), .bool fsto] 67)).setCell ⟨bb, 4, none⟩ (.bool sto) = putB y3 bb (.cells #[Value.int .i64 2, .int .i64 fk, .int .i64 (L0.length : Nat), .int .u64 (fad : Nat), .bool sto] 67) := by rw [putB_set_same _ _ _ _ _ jz]; rfl
        have c2 : (putB y3 bb (.cells #[Value.int .i64 2, .int .i64 fk, .int .i64 (L0.length : Nat), .int .u64 (fad : Nat), .bool fsto] 67)).cell? ⟨bb, 4, none⟩ = some (.bool fsto) := putB_cell_same _ _ _ _ jz
        have f2' : (putB y3 bb (.cells #[Value.int .i64 2, .int .i64 fk, .int .i64 (L0.length : Nat), .int .u64 (fad : Nat), .bool fsto] 67)).frozen? ⟨bb, 4, none⟩ = false := putB_frozen_same _ _ _ jz
        have HOp := Lib.hid (And.intro hOp jz)
        clear hOp hbn j1 j2
        go_upto_region 18 with (fail)
        have hOp2 : Only (fun b => b = bb) Y2 (putB y3 bb (.cells #[Value.int .i64 2, .int .i64 fk, .int .i64 (L0.length : Nat), .int .u64 (fad : Nat), .bool sto] 67)) := HOp.out.1.putB _ (fun _ => rfl)
        have hbn := putB_same (.cells #[Value.int .i64 2, .int .i64 fk, .int .i64 (L0.length : Nat), .int .u64 (fad : Nat), .bool sto] 67) HOp.out.2
        clear s1 s2 c2 f2' jb jf jz
        generalize putB y3 bb (.cells #[Value.int .i64 2, .int .i64 fk, .int .i64 (L0.length : Nat), .int .u64 (fad : Nat), .bool sto] 67) = y4 at *
        have hI4 := isW_put HIY.out.1 hOp2 (show ¬ pb = bb by have := HI3.out.2.2.2; omega) (fun b hb e => by have := HI3.out.2.2.2; omega)
        have HI4 := Lib.hid (And.intro (HIY.out.2.1.trans (hOp2.mono fun b _ e => .inl (.inr e))) hbn)
        have hg : Calls Try.prog 20 #[.pointer (some ⟨pb, 0, none⟩), .int .u64 0, .bool false] y4 (fun e y => e = .returned (.tuple #[]) ∧ IsW y (pb + 1) pb 1 table va v L0 (-1) true ∧ Only (fun b => b = pb) y4 y) := give_no hI4 0
        clear hOp2 hbn hI4
        go_wp2_with fail
        (with_reducible refine hg.mono ?_)
        rintro e y5 ⟨rfl, hI5, hO5⟩
        have HY5 := Lib.hid (And.intro hI5 hO5)
        clear hI5 hO5 hg
        go_wp2
        refine Met.intro (hJ2 _ _ (by kernel_rfl) ?_ ?_)
        · refine ⟨L0.length, table, v, L0, al ++ [T], -1, true, ⟨2, fk, (al.length : Int), fad, sto⟩, ?_, rfl, ?_, HY5.out.1, HI4.out.1.trans (HY5.out.2.mono fun b _ e => .inl (.inl e)), ?_, fun h => (by cases h), fun _ => ⟨HE.out.1, HE.out.2.1, fun _ => HE.out.2.2.2.symm⟩⟩
          · rw [HE.out.2.2.1]; show Value.int .i64 ((C : Int) + nq) = _; simp
          · have := HF.out.1.la; have := HF.out.1.l3; simp; omega
          · rw [HF.out.1.la]; exact keep_only HY5.out.2 (show ¬ bb = pb by have := HI3.out.2.2.2; omega) HI4.out.2
        · rw [H17.out]
          exact dwMu0 _ _ _ rfl HF.out.2.1
end Go.Proofs.Ytlbehhbicmmdoaa
namespace Go.Proofs.Ytlbehhbicmmdoaa
set_option linter.unusedVariables false
set_option linter.unusedSimpArgs false
open Go.RowKit
set_option maxHeartbeats 16000000 in
set_option maxRecDepth 100000 in
theorem docWalk_deny {w : World} {dm : Nat} {pgs : Nat → List Nat} {wd : Nat → Nat} (hD : DocM w dm 40 pgs) (hw : ∀ a, okM 40 a = true → getN (pgs (a / 4096)) (a % 4096) 8 = wd a) (hraw : ∀ a, rawM 40 wd a < 18446744073709551616) (two root va : Nat) (htwo : two < 18446744073709551616) (hroot : root < 18446744073709551616) (hva : va < 18446744073709551616) (access : Int) (hi : ¬ 281474976710656 ≤ va) (hr : ¬ (root % 4096 ≠ 0 ∨ 1099511627776 ≤ root)) (hx : ((walkN (raw1N (rawM 40 wd) (okM 40) two) (ok1N (rawM 40 wd) (okM 40) two) 1 va 4 0 root).2 = 0 ∧ allowsB (lastN (walkN (raw1N (rawM 40 wd) (okM 40) two) (ok1N (rawM 40 wd) (okM 40) two) 1 va 4 0 root).1).d.r (lastN (walkN (raw1N (rawM 40 wd) (okM 40) two) (ok1N (rawM 40 wd) (okM 40) two) 1 va 4 0 root).1).d.w (lastN (walkN (raw1N (rawM 40 wd) (okM 40) two) (ok1N (rawM 40 wd) (okM 40) two) 1 va 4 0 root).1).d.x access = false)) :
    Calls Try.prog 37 #[.pointer (some ⟨dm, 0, none⟩), .int .u64 (two : Nat), .bool true, .int .u64 (root : Nat), .int .u64 (va : Nat), .int .i64 access] w (RetDoc w (nestN (rawM 40 wd) (okM 40) two true root va access)) := by
  obtain ⟨sto, hsto⟩ : ∃ sto, (access == 2) = sto := ⟨_, rfl⟩
  have hsd : decide (access = 2) = sto := by rw [← hsto]; rfl
  have HSD := Lib.hid hsd
  obtain ⟨q, hq⟩ : ∃ q, nestN (rawM 40 wd) (okM 40) two true root va access = q := ⟨_, rfl⟩
  rw [hq]
  have HQ := Lib.hid hq
  have hsec : ∀ y, Old w y → ∀ a, a < 18446744073709551616 → ∀ ac, Calls Try.prog 34 #[.pointer (some ⟨dm, 0, none⟩), .int .u64 (two : Nat), .int .u64 (a : Nat), .int .i64 ac] y (RetDoc y (secondN (rawM 40 wd) (okM 40) two a ac)) := fun y hy a ha ac => docSecond_calls (docM_old hD hy) hw hraw two a htwo ha ac
  have hwc : ∀ y, Old w y → ∀ a, a < 18446744073709551616 → Calls Try.prog 61 #[.pointer (some ⟨dm, 0, none⟩), .int .u64 (a : Nat)] y (RetB y (.tuple #[.int .u64 (rawM 40 wd a : Nat), .bool (okM 40 a)])) := fun y hy a ha => word_calls (docM_old hD hy) hw a ha
  have HU := Lib.hid (And.intro htwo (And.intro hroot (And.intro hva (And.intro hsec (And.intro hwc hraw)))))
  clear hD hw hraw hsd hq hsec hwc htwo hroot hva
  go_enter Try.func37, Try.ntmps37
  go_upto_region 2 with (fail)
  have hH := holds_new #[Value.int .i64 0, .int .i64 0, .int .i64 0, .int .u64 0, .bool false] 67 (holds_new #[Value.int .i64 0, .int .u64 0, .bool false, .bool false, .bool false, .bool false, .bool false, .bool false] 77 (holds_nil w))
  simp only [World.size_alloc] at hH
  have hsz : ((w.alloc (.cells #[Value.int .i64 0, .int .u64 0, .bool false, .bool false, .bool false, .bool false, .bool false, .bool false] 77)).alloc (.cells #[Value.int .i64 0, .int .i64 0, .int .i64 0, .int .u64 0, .bool false] 67)).heap.size = w.heap.size + 1 + 1 := by simp only [World.size_alloc]
  generalize ((w.alloc (.cells #[Value.int .i64 0, .int .u64 0, .bool false, .bool false, .bool false, .bool false, .bool false, .bool false] 77)).alloc (.cells #[Value.int .i64 0, .int .i64 0, .int .i64 0, .int .u64 0, .bool false] 67)) = X1 at *
  obtain ⟨b9, hb9⟩ : ∃ b9, b9 = w.heap.size + 1 := ⟨_, rfl⟩
  obtain ⟨b8, hb8⟩ : ∃ b8, b8 = w.heap.size := ⟨_, rfl⟩
  rw [← hb9, ← hb8] at hH
  rw [← hb9, ← hb8]
  have HB := Lib.hid (And.intro hb8 (And.intro hb9 hsz))
  have HNE : Hid (b8 ≠ b9 ∧ w.heap.size ≤ b8 ∧ w.heap.size ≤ b9) := Lib.hid (by omega)
  obtain ⟨hO, hK9, hK8, -⟩ := id hH
  have HK := Lib.hid (And.intro hO (And.intro hK9 hK8))
  clear hb8 hb9 hsz hH hO hK9 hK8
  have hi1 : decide ((281474976710656 : Int) ≤ (va : Int)) = false := decide_eq_false (by omega)
  have hr1 : ((root : Int) % 4096 != 0) = false := by simp; omega
  have hr2 : decide ((1099511627776 : Int) ≤ (root : Int)) = false := decide_eq_false (by omega)
  have hqd := HQ.out
  unfold nestN at hqd
  rw [HSD.out] at hqd
  replace hqd := ((if_neg hi).trans ((if_neg (by simp)).trans (if_neg hr))).symm.trans hqd
  have hok := walk_ok (raw1N (rawM 40 wd) (okM 40) two) (ok1N (rawM 40 wd) (okM 40) two) 1 va 4 0 root rfl (by decide)
  have hstart : DOn (rawM 40 wd) (okM 40) two va root [] [] _ _ := don_start root
  have hlen := ask_length (raw := raw1N (rawM 40 wd) (okM 40) two) (ok := ok1N (rawM 40 wd) (okM 40) two) (st := 1) (addr := va) 4 0 root
  dsimp only at hqd
  generalize walkN (raw1N (rawM 40 wd) (okM 40) two) (ok1N (rawM 40 wd) (okM 40) two) 1 va 4 0 root = Rr at *
  generalize askN (raw1N (rawM 40 wd) (okM 40) two) (ok1N (rawM 40 wd) (okM 40) two) 1 va 4 0 root = Z at *
  have HX := Lib.hid hx
  have HQD := Lib.hid hqd
  have HOK := Lib.hid (And.intro hok (And.intro hstart hlen))
  clear hqd hok hstart hlen hi hr HQ hx
  go_upto_region 10 with (fail)
  have hbb := new_block X1 (.cells #[Value.int .i64 0, .int .i64 0, .int .i64 0, .int .u64 0, .bool false] 67)
  have hO2 := old_alloc (old_refl X1) (.cells #[Value.int .i64 0, .int .i64 0, .int .i64 0, .int .u64 0, .bool false] 67)
  generalize X1.alloc (.cells #[Value.int .i64 0, .int .i64 0, .int .i64 0, .int .u64 0, .bool false] 67) = X2 at *
  obtain ⟨bb, hbbe⟩ : ∃ bb, bb = X1.heap.size := ⟨_, rfl⟩
  rw [← hbbe] at hbb ⊢
  have HK2 := Lib.hid (And.intro (old_then HK.out.1 hO2) (And.intro (keep_old hO2 HK.out.2.1) (And.intro (keep_old hO2 HK.out.2.2) (And.intro hbb (show b8 < bb ∧ b9 < bb ∧ w.heap.size ≤ bb by have := HB.out; omega)))))
  have hbg := begin_calls 1 root va X2
  clear hbb hO2 hbbe
  go_wp2_with fail
  (with_reducible refine hbg.mono ?_)
  rintro e x3 ⟨rfl, hI3, hO3⟩
  obtain ⟨pb, hpb⟩ : ∃ pb, pb = X2.heap.size := ⟨_, rfl⟩
  rw [← hpb] at hI3 ⊢
  have HI3 := Lib.hid (And.intro hI3 (And.intro hO3 (And.intro hpb (show bb < pb by have := lt_of_block HK2.out.2.2.2.1; omega))))
  clear hbg hI3 hO3 hpb hi1 hr1 hr2
  go_wp2
  refine wp_loopF [false, false, false, false, false, false, false, false, false, false, false, false, false, false, false, false, true, true, false, false, true, true, true, true, true, true, false, false, false, false, false, false, false, false, false, false, false, false, false, false, false, false, false, false, false, false, false, false, false, false, false, false, false, false, false, false, false, false, false, false, false, false, false, false, true, true, true, true, true, true, true, true, true, true, true, true, true, true, true, true, true, true, true, true, true, true, true, true, true, true, true, true, true, true, true, true, true, true, true, true, true, true, true, true, true, true, true, true, true, true, true, true, true, true, true, true, true, true, true] (fun f y => ∃ (lv table : Nat) (v : Value) (L0 : List St) (al : List Nat) (kind : Int) (over : Bool) (b5 : F5), f 16 = .int .i64 (costsN (rawM 40 wd) (okM 40) two al : Nat) ∧ f 17 = .int .i64 (lv : Nat) ∧ al.length ≤ 4 ∧ IsW y (pb + 1) pb 1 table va v L0 kind over ∧ Only (fun b => (b = pb ∨ b = bb) ∨ pb + 1 ≤ b) x3 y ∧
    y.heap[bb]? = some (.cells b5.cells 67) ∧
    (over = false → kind = 4 ∧ lv = L0.length ∧ DOn (rawM 40 wd) (okM 40) two va table L0 al Rr Z ∧ freshV (f 84) (f 25) = true) ∧ (over = true → Rr = (L0, kind) ∧ Z = al ∧ (kind = -1 → b5 = keptN (rawM 40 wd) (okM 40) two sto al))) (fun f => 2 * (5 - (intOf (f 17)).toNat) + (bif freshV (f 84) (f 25) then 1 else 0)) ?start2 ?round2
  case start2 =>
    refine ⟨0, root, _, [], [], 4, _, F0, rfl, rfl, by simp, HI3.out.1, Only.refl _ _, keep_old HI3.out.2.1 HK2.out.2.2.2.1, fun _ => ⟨rfl, rfl, HOK.out.2.1, rfl⟩, fun h => ?_⟩
    exact absurd h (by decide)
  case round2 =>
    intro f2 wq hrel J2 K2 hJ2 hM2
    dsimp only [mergeA, mergeL, Nat.reduceAdd]
    obtain ⟨lv, table, v, L0, al, kind, over, b5, h16, h17, hal4, hI, hOn, hB5, hf, ht⟩ := hrel
    rw [h16, h17]
    obtain ⟨C, hC⟩ : ∃ C, costsN (rawM 40 wd) (okM 40) two al = C := ⟨_, rfl⟩
    have hC20 : C ≤ 20 := by rw [← hC]; exact costs_4 hal4
    rw [hC]
    have H17 := Lib.hid h17
    obtain ⟨k1, q1, z1⟩ := of_block hI.hp
    have HI2 := Lib.hid (And.intro hI (And.intro hOn (And.intro hB5 hC)))
    have HFT := Lib.hid (And.intro hf ht)
    have HOW : Hid (Old w wq) := Lib.hid (Only.to_below (((Only.of_below HK2.out.1).step (Only.of_below HI3.out.2.1) (fun b hb e => e)).step hOn (fun b hb e => by have := HI3.out.2.2; have := HK2.out.1.size; have := HK2.out.2.2.2.2; omega)))
    have c20 : (C : Int) ≤ 20 := by omega
    have HC4 := Lib.hid hal4
    clear h16 h17 hI hOn hB5 hf ht hC hC20 hal4
    cases over
    case true =>
      obtain ⟨hRe, hZe, hb5⟩ := HFT.out.2 rfl
      clear HFT
      subst hRe
      subst hZe
      have hqd := HQD.out
      have hok := HOK.out.1
      have hx := HX.out
      clear HQD HOK HX
      (try dsimp only at hqd)
      (try dsimp only at hok)
      (try dsimp only at hx)
      have HQD := Lib.hid hqd
      have HOK := Lib.hid hok
      clear hqd hok
      obtain ⟨a3, c3, rfl, hl3, hm3', -, q3⟩ := own_value HI2.out.1.own
      have HOWN := Lib.hid (And.intro HI2.out.1.own q3)
      have hnb : ∀ b, b < bb → ¬ ((b = pb ∨ b = bb) ∨ pb + 1 ≤ b) := fun b hb => by have := HI3.out.2.2.2; omega
      have K9q := keep_only HI2.out.2.1 (hnb b9 (by have := HK2.out.2.2.2.2; omega)) (keep_old HI3.out.2.1 HK2.out.2.1)
      have K8q := keep_only HI2.out.2.1 (hnb b8 (by have := HK2.out.2.2.2.2; omega)) (keep_old HI3.out.2.1 HK2.out.2.2.1)
      have HKQ := Lib.hid (And.intro K8q (And.intro K9q (And.intro HI2.out.2.2.1 HOW.out)))
      have HNB : Hid (bb ≠ b8 ∧ bb ≠ b9) := Lib.hid (by have := HK2.out.2.2.2.2; omega)
      have HB5 := Lib.hid hb5
      clear hl3 hm3' q3 hnb K9q K8q hb5
      go_upto_region 26 with (fail)
      clear k1 q1 z1
      refine wp_region_walked (S := Old wq) (by kernel_rfl) (by kernel_rfl) (old_drew (old_refl _)) ?_
      apply walked_cons
      · intro wS hS
        have HS := Lib.hid hS
        clear hS
        go_wp2
        exact ⟨rfl, rfl, HS.out⟩
      · rfl
      (try simp only [Act.put, List.setIfInBounds_toArray, List.set_cons_succ, List.set_cons_zero])
      apply walked_cons
      · intro wS hS
        have HS := Lib.hid hS
        clear hS
        go_wp2
        exact ⟨rfl, rfl, HS.out⟩
      · rfl
      (try simp only [Act.put, List.setIfInBounds_toArray, List.set_cons_succ, List.set_cons_zero])
      apply walked_cons
      · intro wS hS
        have HS := Lib.hid hS
        clear hS
        go_wp2
        exact ⟨rfl, rfl, HS.out⟩
      · rfl
      (try simp only [Act.put, List.setIfInBounds_toArray, List.set_cons_succ, List.set_cons_zero])
      apply walked_cons
      · intro wS hS
        obtain ⟨k9, -, -⟩ := of_block (keep_old hS HI2.out.1.hp)
        have HS := Lib.hid hS
        clear hS
        go_wp2
        exact ⟨rfl, rfl, HS.out⟩
      · rfl
      (try simp only [Act.put, List.setIfInBounds_toArray, List.set_cons_succ, List.set_cons_zero])
      apply walked_cons
      · intro wS hS
        have HS := Lib.hid hS
        clear hS
        go_wp2
        exact ⟨rfl, rfl, HS.out⟩
      · rfl
      (try simp only [Act.put, List.setIfInBounds_toArray, List.set_cons_succ, List.set_cons_zero])
      apply walked_cons
      · intro wS hS
        have HS := Lib.hid hS
        clear hS
        go_wp2
        exact ⟨rfl, rfl, HS.out⟩
      · rfl
      (try simp only [Act.put, List.setIfInBounds_toArray, List.set_cons_succ, List.set_cons_zero])
      apply walked_cons
      · intro wS hS
        have HS := Lib.hid hS
        clear hS
        go_wp2
        exact ⟨rfl, rfl, HS.out⟩
      · rfl
      (try simp only [Act.put, List.setIfInBounds_toArray, List.set_cons_succ, List.set_cons_zero])
      apply walked_cons
      · intro wS hS
        obtain ⟨k9, -, -⟩ := of_block (keep_old hS HI2.out.1.hp)
        have HS := Lib.hid hS
        clear hS
        go_wp2
        exact ⟨rfl, rfl, HS.out⟩
      · rfl
      (try simp only [Act.put, List.setIfInBounds_toArray, List.set_cons_succ, List.set_cons_zero])
      apply walked_cons
      · intro wS hS
        have HS := Lib.hid hS
        clear hS
        go_wp2
        exact ⟨rfl, rfl, HS.out⟩
      · rfl
      (try simp only [Act.put, List.setIfInBounds_toArray, List.set_cons_succ, List.set_cons_zero])
      apply walked_cons
      · intro wS hS
        have HS := Lib.hid hS
        clear hS
        go_wp2
        exact ⟨rfl, rfl, HS.out⟩
      · rfl
      (try simp only [Act.put, List.setIfInBounds_toArray, List.set_cons_succ, List.set_cons_zero])
      apply walked_nil
      intro wS hS
      have hcs0 := own_old HOWN.out.1 hS
      have HCS0 := Lib.hid hcs0
      have HKX := Lib.hid (And.intro (keep_old hS HKQ.out.1) (And.intro (keep_old hS HKQ.out.2.1) (And.intro (keep_old hS HKQ.out.2.2.1) (old_then HKQ.out.2.2.2 hS))))
      clear hS hcs0
      have hK : ¬ kind = -1 := (by rw [hx.1]; decide)
      have hk1 : (kind == -1) = false := by simp [hK]
      obtain ⟨m, hmL⟩ : ∃ m, m = L0.length := ⟨_, rfl⟩
      have hn1 : 1 ≤ m := by
        have := HOK.out.some_ hK
        rw [hmL]; exact this
      obtain ⟨s, hs0, hs1, hs⟩ := last_mem (l := L0) (by rw [← hmL]; exact hn1)
      rw [← hmL] at hs
      obtain ⟨f1, f2', f3, f4⟩ := way_at HOK.out.way hs
      have hl4 : m ≤ 4 := by rw [hmL]; exact HOK.out.len
      obtain ⟨g1, rfl⟩ := HOWN.out.2 (by rw [← hmL]; omega)
      have hcs : ∀ (c : Nat) (u : Value), s.cells[c]? = some u → wS.cell? ⟨g1, (m - 1) * 9 + c, none⟩ = some u := fun c u hu => own_cell HCS0.out rfl _ (stCells_get L0 _ s c u hs hu)
      have hlvs : s.lv = m - 1 := by rw [f1]; omega
      have HLV := Lib.hid hlvs
      clear hlvs
      have HS1 := Lib.hid hs1
      have HX := Lib.hid hx
      obtain ⟨slv, sat, sraw, ⟨dk, da, dr, dw, dx, dS⟩⟩ := s
      have hcs2 : ∀ (c : Nat) (u : Value), [Value.int .i64 (slv : Nat), .int .u64 (sat : Nat), .int .u64 (sraw : Nat), .int .i64 dk, .int .u64 (da : Nat), .bool dr, .bool dw, .bool dx, .int .i64 dS][c]? = some u → wS.cell? ⟨g1, (m - 1) * 9 + c, none⟩ = some u := hcs
      have hda : da < 18446744073709551616 := f4
      have HCS := Lib.hid hcs2
      have HDA := Lib.hid hda
      have hlen : L0.length = m := hmL.symm
      rw [hlen]
      have hn1' : ((m - 1 : Nat) : Int) = (m : Int) - 1 := by omega
      have n4 : (m : Int) ≤ 4 := by omega
      have hge : (0 : Int) ≤ (m : Int) - 1 := by omega
      have hlt : (m : Int) - 1 < m := by omega
      have htn : ((m : Int) - 1).toNat = m - 1 := by omega
      have HLEN := Lib.hid hlen
      have HKI := Lib.hid hK
      clear hlen hmL hn1 hs0 hs1 hs f1 f2' f3 f4 hl4 hcs hcs2 hda hK HOK hx HB5
      go_upto_region 30 with (refine wpList_load_at rfl 54 _ rfl g1 ((m - 1) * 9) rfl [Value.int .i64 (slv : Nat), .int .u64 (sat : Nat), .int .u64 (sraw : Nat), .int .i64 dk, .int .u64 (da : Nat), .bool dr, .bool dw, .bool dx, .int .i64 dS] _ HCS.out Try.underlying54 rfl (by kernel_rfl) ?_)
      have hO3 := old_alloc (old_refl wS) (.cells #[Value.int .i64 (slv : Nat), .int .u64 (sat : Nat), .int .u64 (sraw : Nat), .int .i64 dk, .int .u64 (da : Nat), .bool dr, .bool dw, .bool dx, .int .i64 dS] 54)
      have hxb := new_block wS (.cells #[Value.int .i64 (slv : Nat), .int .u64 (sat : Nat), .int .u64 (sraw : Nat), .int .i64 dk, .int .u64 (da : Nat), .bool dr, .bool dw, .bool dx, .int .i64 dS] 54)
      generalize wS.alloc (.cells #[Value.int .i64 (slv : Nat), .int .u64 (sat : Nat), .int .u64 (sraw : Nat), .int .i64 dk, .int .u64 (da : Nat), .bool dr, .bool dw, .bool dx, .int .i64 dS] 54) = X4 at *
      obtain ⟨bl, hbl⟩ : ∃ bl, bl = wS.heap.size := ⟨_, rfl⟩
      rw [← hbl] at hxb ⊢
      have HBL : Hid (bl ≠ b8 ∧ bl ≠ b9) := Lib.hid (by have h1 := lt_of_block HKX.out.1; have h2 := lt_of_block HKX.out.2.1; omega)
      have HK3 := Lib.hid (And.intro (keep_old hO3 HKX.out.1) (And.intro (keep_old hO3 HKX.out.2.1) (And.intro hxb (old_then HKX.out.2.2.2 hO3))))
      clear hO3 hbl HCS hn1' hge hlt htn HKX HCS0 hk1
      have hk0 : kind = 0 := HX.out.1
      have hal : allowsB dr dw dx access = false := by
        have h9 := HX.out.2
        rw [HS1.out] at h9
        exact h9
      have hqd := HQD.out
      rw [HS1.out] at hqd
      subst hk0
      have HQD := Lib.hid hqd
      have HALL := Lib.hid (allows14_calls dr dw dx access)
      have hc := HALL.out X4
      rw [hal] at hc
      have HAL := Lib.hid hal
      obtain ⟨km, qm, zm⟩ := of_block hxb
      clear hqd hal hxb
      go_wp2_with fail
      (with_reducible refine hc.mono ?_)
      rintro e x4 ⟨rfl, hO4⟩
      have HKX := Lib.hid (And.intro (keep_old hO4 HK3.out.1) (And.intro (keep_old hO4 HK3.out.2.1) (And.intro (keep_old hO4 HK3.out.2.2.1) (old_then HK3.out.2.2.2 hO4))))
      clear hO4 hc km qm zm
      have HQ6 : Hid (q = (O0, ⟨1, 2, (slv : Nat), va, sto⟩, C)) := Lib.hid (by
        rw [← HI2.out.2.2.2, ← HQD.out]
        exact (if_neg (by decide)).trans ((if_neg (by simp)).trans (if_pos HAL.out)))
      obtain ⟨K8, K9, KL, -⟩ := HKX.out
      clear HQD
      go_upto_region 33 with (fail)
      refine wp_region_staged (S := TwoS 7 8 b8 (.cells #[Value.int .i64 0, .int .u64 0, .bool false, .bool false, .bool false, .bool false, .bool false, .bool false] 77) b9 (.cells #[Value.int .i64 1, .int .i64 2, .int .i64 (slv : Nat), .int .u64 (va : Nat), .bool sto] 67) x4.drew) 10 (by kernel_rfl) (by kernel_rfl) (by kernel_rfl) (by decide) (two_start _) ?_
      apply walkedS_cons
      · intro l9 wS hz hn hS
        have hS9 := two_other 0 (by decide) (by decide) hS
        clear hS
        go_wp2
        exact ⟨rfl, rfl, hS9⟩
      · rfl
      (try simp only [Act.put, List.setIfInBounds_toArray, List.set_cons_succ, List.set_cons_zero])
      apply walkedS_cons
      · intro l9 wS hz hn hS
        have hS9 := two_other 1 (by decide) (by decide) hS
        clear hS
        go_wp2
        exact ⟨rfl, rfl, hS9⟩
      · rfl
      (try simp only [Act.put, List.setIfInBounds_toArray, List.set_cons_succ, List.set_cons_zero])
      apply walkedS_cons
      · intro l9 wS hz hn hS
        have hS9 := two_other 2 (by decide) (by decide) hS
        have c9 := two_cell hS HBL.out.1 HBL.out.2 KL
        clear hS
        go_wp2
        exact ⟨rfl, rfl, hS9⟩
      · rfl
      (try simp only [Act.put, List.setIfInBounds_toArray, List.set_cons_succ, List.set_cons_zero])
      apply walkedS_cons
      · intro l9 wS hz hn hS
        have hS9 := two_other 3 (by decide) (by decide) hS
        clear hS
        go_wp2
        exact ⟨rfl, rfl, hS9⟩
      · rfl
      (try simp only [Act.put, List.setIfInBounds_toArray, List.set_cons_succ, List.set_cons_zero])
      apply walkedS_cons
      · intro l9 wS hz hn hS
        have hS9 := two_other 4 (by decide) (by decide) hS
        clear hS
        go_wp2
        exact ⟨rfl, rfl, hS9⟩
      · rfl
      (try simp only [Act.put, List.setIfInBounds_toArray, List.set_cons_succ, List.set_cons_zero])
      apply walkedS_cons
      · intro l9 wS hz hn hS
        have hS9 := two_other 5 (by decide) (by decide) hS
        clear hS
        go_wp2
        exact ⟨rfl, rfl, hS9⟩
      · rfl
      (try simp only [Act.put, List.setIfInBounds_toArray, List.set_cons_succ, List.set_cons_zero])
      apply walkedS_cons
      · intro l9 wS hz hn hS
        have hS9 := two_other 6 (by decide) (by decide) hS
        clear hS
        go_wp2
        exact ⟨rfl, rfl, hS9⟩
      · rfl
      (try simp only [Act.put, List.setIfInBounds_toArray, List.set_cons_succ, List.set_cons_zero])
      apply walkedS_cons
      · intro l9 wS hz hn hS
        have hb9 := two_first hn hS HNE.out.1 K8
        have hd9 := two_done1 hz (by decide) (by decide) hn HNE.out.1 hS
        refine wpList_store_whole rfl 77 _ _ rfl b8 [Value.int .i64 0, .int .u64 0, .bool false, .bool false, .bool false, .bool false, .bool false, .bool false] rfl rfl 77 _ hb9 (by kernel_rfl) rfl (by intro v hv; simp only [List.mem_cons, List.not_mem_nil, or_false] at hv; rcases hv with rfl | rfl | rfl | rfl | rfl | rfl | rfl | rfl <;> rfl) ?_
        exact ⟨rfl, rfl, hd9⟩
      · rfl
      (try simp only [Act.put, List.setIfInBounds_toArray, List.set_cons_succ, List.set_cons_zero])
      apply walkedS_cons
      · intro l9 wS hz hn hS
        have hb9 := two_second hn hS HNE.out.1 K9
        have hd9 := two_done2 hz (by decide) (by decide) hn hS
        refine wpList_store_whole rfl 67 _ _ rfl b9 [Value.int .i64 1, .int .i64 2, .int .i64 (slv : Nat), .int .u64 (va : Nat), .bool sto] rfl rfl 67 _ hb9 (by kernel_rfl) rfl (by intro v hv; simp only [List.mem_cons, List.not_mem_nil, or_false] at hv; rcases hv with rfl | rfl | rfl | rfl | rfl <;> rfl) ?_
        exact ⟨rfl, rfl, hd9⟩
      · rfl
      (try simp only [Act.put, List.setIfInBounds_toArray, List.set_cons_succ, List.set_cons_zero])
      apply walkedS_cons
      · intro l9 wS hz hn hS
        have hS9 := two_other 9 (by decide) (by decide) hS
        clear hS
        go_wp2
        exact ⟨rfl, rfl, hS9⟩
      · rfl
      (try simp only [Act.put, List.setIfInBounds_toArray, List.set_cons_succ, List.set_cons_zero])
      apply walkedS_nil
      intro l9 wS hz hall hS
      obtain rfl := two_all (hall 7 (by decide)) (hall 8 (by decide)) hS
      clear hS hall hz l9
      show wpList _ _ _ [] _ _
      go_wp2
      have r8 : (putB (putB x4.drew b8 (.cells #[Value.int .i64 0, .int .u64 0, .bool false, .bool false, .bool false, .bool false, .bool false, .bool false] 77)) b9 (.cells #[Value.int .i64 1, .int .i64 2, .int .i64 (slv : Nat), .int .u64 (va : Nat), .bool sto] 67)).heap[b8]? = some (.cells #[Value.int .i64 0, .int .u64 0, .bool false, .bool false, .bool false, .bool false, .bool false, .bool false] 77) := by rw [putB_other _ (Ne.symm HNE.out.1)]; exact putB_same _ (lt_of_block (show x4.drew.heap[b8]? = _ from K8))
      have r9 : (putB (putB x4.drew b8 (.cells #[Value.int .i64 0, .int .u64 0, .bool false, .bool false, .bool false, .bool false, .bool false, .bool false] 77)) b9 (.cells #[Value.int .i64 1, .int .i64 2, .int .i64 (slv : Nat), .int .u64 (va : Nat), .bool sto] 67)).heap[b9]? = some (.cells #[Value.int .i64 1, .int .i64 2, .int .i64 (slv : Nat), .int .u64 (va : Nat), .bool sto] 67) := putB_same _ (by rw [putB_size]; exact lt_of_block (show x4.drew.heap[b9]? = _ from K9))
      obtain ⟨k8, -, -⟩ := of_block r8
      obtain ⟨k9, -, -⟩ := of_block r9
      refine bodyPost_ret (by simp [results, Try.results37, go_sem, k8, k9]; try rfl) rfl ?_
      rw [HQ6.out]
      exact ⟨rfl, old_put (old_put (old_drew HKX.out.2.2.2) _ HNE.out.2.1) _ HNE.out.2.2⟩
    case false =>
      obtain ⟨hk4, hlv, hdo, hfr⟩ := HFT.out.1 rfl
      subst hk4 hlv
      clear HFT
      have l4 : (L0.length : Int) ≤ 3 := by have := hdo.l3; omega
      obtain ⟨T, hT⟩ : ∃ T, atN table va L0.length = T := ⟨_, rfl⟩
      have hat := atW_calls HI2.out.1 HU.out.2.2.1 hdo.l3
      rw [hT] at hat
      have hTl : T < 18446744073709551616 := by rw [← hT]; exact atN_lt _ _ _
      obtain ⟨q2, hq2⟩ : ∃ q2, secondN (rawM 40 wd) (okM 40) two T 1 = q2 := ⟨_, rfl⟩
      have hsk := second_ok (raw := rawM 40 wd) (ok := okM 40) two T 1
      have hsfr := second_fr (raw := rawM 40 wd) (ok := okM 40) two T 1
      have hcs := costs_snocD (raw := rawM 40 wd) (ok := okM 40) (two := two) (al := al) (T := T)
      have hks := kept_snoc (raw := rawM 40 wd) (ok := okM 40) (two := two) (sto := sto) (l := al) (a := T)
      have hok1 : ok1N (rawM 40 wd) (okM 40) two T = (decide (q2.2.1.k = 0) && okM 40 (q2.1.fr * 4096 + T % 4096)) := by unfold ok1N; rw [hq2]
      have hrw1 : raw1N (rawM 40 wd) (okM 40) two T = if ok1N (rawM 40 wd) (okM 40) two T then rawM 40 wd (q2.1.fr * 4096 + T % 4096) else 0 := by unfold raw1N; rw [hq2]
      have hft1 : faultN (rawM 40 wd) (okM 40) two T (al.length : Int) sto = if q2.2.1.k = 0 then ⟨2, 4, (al.length : Int), T, sto⟩ else ⟨q2.2.1.st, q2.2.1.k, (al.length : Int), q2.2.1.ad, sto⟩ := by unfold faultN; rw [hq2]
      have hsc := fun y (hy : Old wq y) => HU.out.2.2.2.1 y (old_then HOW.out hy) T hTl 1
      rw [hq2] at hsk hsfr hcs
      simp only [hq2] at hsc
      obtain ⟨⟨ofr, oip, o1, o2, o3, o4, o5, o6⟩, ⟨fst, fk, flv, fad, fsto⟩, nq⟩ := q2
      have n4' : nq ≤ 4 := hsk.n4
      have n4 : (nq : Int) ≤ 4 := by omega
      have HF := Lib.hid (And.intro hdo (And.intro hfr (And.intro hT (And.intro hTl (And.intro hsk (And.intro hsfr (And.intro hcs (And.intro hks (And.intro hok1 (And.intro hrw1 hft1))))))))))
      have HSC := Lib.hid hsc
      clear n4' hdo hfr hT hTl hq2 hsk hsfr hcs hks hok1 hrw1 hft1 hsc
      go_wp2_with fail
      (with_reducible refine hat.mono ?_)
      rintro e y1 ⟨rfl, hO1⟩
      have hc := HSC.out y1 hO1
      have HO1 := Lib.hid hO1
      clear hat hO1 k1 q1 z1
      go_wp2_with fail
      (with_reducible refine hc.mono ?_)
      rintro e y2 ⟨rfl, hO2⟩
      have HO2 := Lib.hid (old_then HO1.out hO2)
      clear hc hO2
      dsimp only [O8.cells, F5.cells]
      obtain ⟨Y2, hY2, hOY2, hob1, hfb1, hsY2, i1, i2⟩ := pair_new y2 #[Value.int .i64 0, .int .u64 0, .bool false, .bool false, .bool false, .bool false, .bool false, .bool false] #[Value.int .i64 0, .int .i64 0, .int .i64 0, .int .u64 0, .bool false] #[Value.int .i64 (ofr : Nat), .int .u64 (oip : Nat), .bool o1, .bool o2, .bool o3, .bool o4, .bool o5, .bool o6] #[Value.int .i64 fst, .int .i64 fk, .int .i64 flv, .int .u64 (fad : Nat), .bool fsto] 77 67
      have HY2 := Lib.hid (And.intro hOY2 (And.intro hob1 (And.intro hfb1 hsY2)))
      have HEY2 := Lib.hid hY2
      have I1Y2 := Lib.hid i1
      have I2Y2 := Lib.hid i2
      clear hY2 hOY2 hob1 hfb1 hsY2 i1 i2
      go_upto_region 14 with (first | (refine wpList_store_whole rfl 77 _ _ rfl y2.heap.size [Value.int .i64 (ofr : Nat), .int .u64 (oip : Nat), .bool o1, .bool o2, .bool o3, .bool o4, .bool o5, .bool o6] rfl rfl 77 _ I1Y2.out (by kernel_rfl) rfl (by intro v hv; simp only [List.mem_cons, List.not_mem_nil, or_false] at hv; rcases hv with rfl | rfl | rfl | rfl | rfl | rfl | rfl | rfl <;> rfl) ?_) | (refine wpList_store_whole rfl 67 _ _ rfl (y2.heap.size + 1) [Value.int .i64 fst, .int .i64 fk, .int .i64 flv, .int .u64 (fad : Nat), .bool fsto] rfl rfl 67 _ I2Y2.out (by kernel_rfl) rfl (by intro v hv; simp only [List.mem_cons, List.not_mem_nil, or_false] at hv; rcases hv with rfl | rfl | rfl | rfl | rfl <;> rfl) ?_))
      rw [← HEY2.out]
      clear HEY2 I1Y2 I2Y2
      obtain ⟨fb1, hfb1⟩ : ∃ fb1, fb1 = y2.heap.size + 1 := ⟨_, rfl⟩
      obtain ⟨ob1, hob1⟩ : ∃ ob1, ob1 = y2.heap.size := ⟨_, rfl⟩
      rw [← hfb1, ← hob1]
      rw [← hfb1, ← hob1] at HY2
      have HBY2 := Lib.hid (And.intro hob1 hfb1)
      clear hfb1 hob1
      have hOY := old_then HO2.out HY2.out.1
      have HIY := Lib.hid (And.intro (isW_old HI2.out.1 hOY) (And.intro (HI2.out.2.1.trans ((Only.of_below hOY).mono fun b _ f => f.elim)) (And.intro (keep_old hOY HI2.out.2.2.1) (And.intro (old_then HOW.out hOY) (show bb < ob1 ∧ bb < fb1 by have h1 := lt_of_block HI2.out.2.2.1; have h2 := HO2.out.size; have h3 := HBY2.out; omega)))))
      obtain ⟨j1, -, -⟩ := of_block HY2.out.2.1
      obtain ⟨j2, -, -⟩ := of_block HY2.out.2.2.1
      clear hOY
      by_cases hk0 : fk = 0
      · -- a word is asked for
        obtain ⟨hF0, -⟩ := HF.out.2.2.2.2.1.yes hk0
        have e0 : fst = 0 ∧ flv = 0 ∧ fad = 0 ∧ fsto = false := by
          have hF1 : (⟨fst, fk, flv, fad, fsto⟩ : F5) = F0 := hF0
          injection hF1 with a1 a2 a3 a4 a5
          exact ⟨a1, a3, a4, a5⟩
        obtain ⟨rfl, -, -, -⟩ := e0
        obtain ⟨A, hA⟩ : ∃ A, ofr * 4096 + T % 4096 = A := ⟨_, rfl⟩
        obtain ⟨TM, hTM⟩ : ∃ TM, T % 4096 = TM := ⟨_, rfl⟩
        have hTMi : (T : Int) % 4096 = (TM : Int) := by rw [← hTM]; rfl
        have hsf : ofr * 4096 + 4095 < 18446744073709551616 := HF.out.2.2.2.2.2.1
        obtain ⟨u1, u2, u3⟩ := dw_addr ofr TM (by rw [← hTM]; exact Nat.mod_lt _ (by decide)) hsf
        have hAT : ofr * 4096 + TM = A := by rw [← hTM]; exact hA
        rw [hAT] at u3
        have hAl : A < 18446744073709551616 := by
          have h1 : TM < 4096 := by rw [← hTM]; exact Nat.mod_lt _ (by decide)
          rw [← hAT]; omega
        obtain ⟨M4, hM4⟩ : ∃ M4 : Int, (ofr : Int) * 4096 = M4 := ⟨_, rfl⟩
        obtain ⟨okA, hokA⟩ : ∃ okA, okM 40 A = okA := ⟨_, rfl⟩
        obtain ⟨V, hV⟩ : ∃ V, rawM 40 wd A = V := ⟨_, rfl⟩
        have hVl : V < 18446744073709551616 := by rw [← hV]; exact HU.out.2.2.2.2.2 A
        have hwd := HU.out.2.2.2.2.1 Y2 HIY.out.2.2.2.1 A hAl
        rw [hokA, hV] at hwd
        have hok1 : ok1N (rawM 40 wd) (okM 40) two T = okA := by
          rw [HF.out.2.2.2.2.2.2.2.2.1]
          (try dsimp only)
          rw [hA, hokA, decide_eq_true hk0]; rfl
        have hft := HF.out.2.2.2.2.2.2.2.2.2.2
        (try dsimp only at hft)
        rw [if_pos hk0] at hft
        have HW := Lib.hid (And.intro hok1 (And.intro hVl (And.intro hft (And.intro hA hV))))
        clear hF0 hAT hA hTM hsf hokA hV hVl hok1 hft hAl hM4
        go_wp2_with fail
        (with_reducible refine hwd.mono ?_)
        rintro e y3 ⟨rfl, hO3⟩
        have HI3' := Lib.hid (And.intro (isW_old HIY.out.1 hO3) (And.intro (HIY.out.2.1.trans ((Only.of_below hO3).mono fun b _ f => f.elim)) (And.intro (keep_old hO3 HIY.out.2.2.1) (old_then HIY.out.2.2.2.1 hO3))))
        clear hwd hO3 j1 j2 u1 u2 u3
        cases okA
        case false =>
          obtain ⟨hRe, hZe⟩ := don_no HF.out.1 HF.out.2.2.1 HW.out.1
          have hcs := HF.out.2.2.2.2.2.2.1
          rw [HW.out.1, HI2.out.2.2.2] at hcs
          have hks := HF.out.2.2.2.2.2.2.2.1
          rw [HW.out.1, HW.out.2.2.1] at hks
          have HE := Lib.hid (And.intro hRe (And.intro hZe (And.intro hcs hks)))
          have hb3 := HI3'.out.2.2.1
          have HB3 := Lib.hid hb3
          clear hRe hZe hcs hks hb3
          go_upto_region 22 with (refine wpList_store_whole rfl 67 _ _ rfl bb [Value.int .i64 2, .int .i64 4, .int .i64 (L0.length : Nat), .int .u64 (T : Nat), .bool sto] rfl rfl 67 _ HB3.out (by kernel_rfl) rfl (by intro v hv; simp only [List.mem_cons, List.not_mem_nil, or_false] at hv; rcases hv with rfl | rfl | rfl | rfl | rfl <;> rfl) ?_)
          have hOp : Only (fun b => b = bb) y3 (putB y3 bb (.cells #[Value.int .i64 2, .int .i64 4, .int .i64 (L0.length : Nat), .int .u64 (T : Nat), .bool sto] 67)) := (Only.refl _ y3).putB _ (fun _ => rfl)
          have hbn := putB_same (.cells #[Value.int .i64 2, .int .i64 4, .int .i64 (L0.length : Nat), .int .u64 (T : Nat), .bool sto] 67) (lt_of_block HB3.out)
          generalize putB y3 bb (.cells #[Value.int .i64 2, .int .i64 4, .int .i64 (L0.length : Nat), .int .u64 (T : Nat), .bool sto] 67) = y4 at *
          have hI4 := isW_put HI3'.out.1 hOp (show ¬ pb = bb by have := HI3.out.2.2.2; omega) (fun b hb e => by have := HI3.out.2.2.2; omega)
          have HI4 := Lib.hid (And.intro (HI3'.out.2.1.trans (hOp.mono fun b _ e => .inl (.inr e))) hbn)
          have hg : Calls Try.prog 20 #[.pointer (some ⟨pb, 0, none⟩), .int .u64 0, .bool false] y4 (fun e y => e = .returned (.tuple #[]) ∧ IsW y (pb + 1) pb 1 table va v L0 (-1) true ∧ Only (fun b => b = pb) y4 y) := give_no hI4 0
          clear hOp hbn hI4
          go_wp2_with fail
          (with_reducible refine hg.mono ?_)
          rintro e y5 ⟨rfl, hI5, hO5⟩
          have HY5 := Lib.hid (And.intro hI5 hO5)
          clear hI5 hO5 hg
          go_wp2
          refine Met.intro (hJ2 _ _ (by kernel_rfl) ?_ ?_)
          · refine ⟨L0.length, table, v, L0, al ++ [T], -1, true, ⟨2, 4, (al.length : Int), T, sto⟩, ?_, rfl, ?_, HY5.out.1, HI4.out.1.trans (HY5.out.2.mono fun b _ e => .inl (.inl e)), ?_, fun h => (by cases h), fun _ => ⟨HE.out.1, HE.out.2.1, fun _ => HE.out.2.2.2.symm⟩⟩
            · rw [HE.out.2.2.1]; show Value.int .i64 ((C : Int) + nq) = _; simp
            · have := HF.out.1.la; have := HF.out.1.l3; simp; omega
            · rw [HF.out.1.la]; exact keep_only HY5.out.2 (show ¬ bb = pb by have := HI3.out.2.2.2; omega) HI4.out.2
          · rw [H17.out]
            exact dwMu0 _ _ _ rfl HF.out.2.1
        case true =>
          have hrw : raw1N (rawM 40 wd) (okM 40) two T = V := by
            rw [HF.out.2.2.2.2.2.2.2.2.2.1, HW.out.1, if_pos rfl]
            (try dsimp only)
            rw [HW.out.2.2.2.1]; exact HW.out.2.2.2.2
          have hend := don_yes HF.out.1 HF.out.2.2.1 HW.out.1 hrw
          have hcs := HF.out.2.2.2.2.2.2.1
          rw [HW.out.1, HI2.out.2.2.2] at hcs
          have hks := HF.out.2.2.2.2.2.2.2.1
          rw [HW.out.1] at hks
          have hg := give_yes HI3'.out.1 HU.out.2.2.1 HF.out.1.l3 V HW.out.2.1
          rw [HF.out.2.2.1] at hg
          have HE := Lib.hid (And.intro hend hcs)
          clear hend hcs hks hrw
          go_wp2_with fail
          (with_reducible refine hg.mono ?_)
          rintro e y5 ⟨rfl, ⟨v', hI5⟩, hO5⟩
          have HY5 := Lib.hid (And.intro hI5 hO5)
          clear hI5 hO5 hg
          go_wp2
          refine Met.intro (hJ2 _ _ (by kernel_rfl) ?_ ?_)
          · refine ⟨L0.length + 1, _, v', _, al ++ [T], _, _, b5, ?_, by show Value.int .i64 ((L0.length : Int) + 1) = _; simp, ?_, HY5.out.1, HI3'.out.2.1.trans (HY5.out.2.mono fun b _ e => by rcases e with e | e; exact .inl (.inl e); exact .inr e), ?_, fun h => ⟨(HE.out.1.1 h).1, by simp, (HE.out.1.1 h).2, rfl⟩, fun h => ⟨(HE.out.1.2 h).1, (HE.out.1.2 h).2, fun hk => ?_⟩⟩
            · rw [HE.out.2]; show Value.int .i64 ((C : Int) + nq + 1) = _; simp; omega
            · have := HF.out.1.la; have := HF.out.1.l3; simp; omega
            · exact keep_only HY5.out.2 (show ¬ (bb = pb ∨ pb + 1 ≤ bb) by have := HI3.out.2.2.2; omega) HI3'.out.2.2.1
            · exact absurd hk (giveK_ne _ _)
          · rw [H17.out]
            exact dwMu (L0.length : Int) ((L0.length : Int) + 1) (by omega) (by omega) (by have := HF.out.1.l3; omega) _ _
      · -- the second stage lacks it
        obtain ⟨-, hst2, -⟩ := HF.out.2.2.2.2.1.no hk0
        have hst2' : fst = 2 := hst2
        subst hst2'
        have hok1 : ok1N (rawM 40 wd) (okM 40) two T = false := by
          rw [HF.out.2.2.2.2.2.2.2.2.1]
          (try dsimp only)
          rw [decide_eq_false hk0]; rfl
        have hft := HF.out.2.2.2.2.2.2.2.2.2.2
        (try dsimp only at hft)
        rw [if_neg hk0] at hft
        obtain ⟨hRe, hZe⟩ := don_no HF.out.1 HF.out.2.2.1 hok1
        have hcs := HF.out.2.2.2.2.2.2.1
        rw [hok1, HI2.out.2.2.2] at hcs
        have hks := HF.out.2.2.2.2.2.2.2.1
        rw [hok1, hft] at hks
        have HE := Lib.hid (And.intro hRe (And.intro hZe (And.intro hcs hks)))
        have hb3 := HIY.out.2.2.1
        have HB3 := Lib.hid hb3
        have HSZ := Lib.hid (lt_of_block hb3)
        clear hst2 hok1 hft hRe hZe hcs hks hb3 hk0
        go_upto_region 17 with (refine wpList_store_whole rfl 67 _ _ rfl bb [Value.int .i64 2, .int .i64 fk, .int .i64 flv, .int .u64 (fad : Nat), .bool fsto] rfl rfl 67 _ HB3.out (by kernel_rfl) rfl (by intro v hv; simp only [List.mem_cons, List.not_mem_nil, or_false] at hv; rcases hv with rfl | rfl | rfl | rfl | rfl <;> rfl) ?_)
        have hOp : Only (fun b => b = bb) Y2 (putB Y2 bb (.cells #[Value.int .i64 2, .int .i64 fk, .int .i64 flv, .int .u64 (fad : Nat), .bool fsto] 67)) := (Only.refl _ Y2).putB _ (fun _ => rfl)
        have hbn := putB_same (.cells #[Value.int .i64 2, .int .i64 fk, .int .i64 flv, .int .u64 (fad : Nat), .bool fsto] 67) HSZ.out
        generalize putB Y2 bb (.cells #[Value.int .i64 2, .int .i64 fk, .int .i64 flv, .int .u64 (fad : Nat), .bool fsto] 67) = y3 at *
        obtain ⟨jb, jf, jz⟩ := of_block hbn
        have s1 : y3.setCell ⟨bb, 2, none⟩ (.int .i64 (L0.length : Nat)) = putB y3 bb (.cells #[Value.int .i64 2, .int .i64 fk, .int .i64 (L0.length : Nat), .int .u64 (fad : Nat), .bool fsto] 67) := by rw [set_of hbn]; rfl
        have s2 : (putB y3 bb (.cells #[Value.int .i64 2, .int .i64 fk, .int .i64 (L0.length : Nat), .int .u64 (fad : Nat), .bool fsto] 67)).setCell ⟨bb, 4, none⟩ (.bool sto) = putB y3 bb (.cells #[Value.int .i64 2, .int .i64 fk, .int .i64 (L0.length : Nat), .int .u64 (fad : Nat), .bool sto] 67) := by rw [putB_set_same _ _ _ _ _ jz]; rfl
        have c2 : (putB y3 bb (.cells #[Value.int .i64 2, .int .i64 fk, .int .i64 (L0.length : Nat), .int .u64 (fad : Nat), .bool fsto] 67)).cell? ⟨bb, 4, none⟩ = some (.bool fsto) := putB_cell_same _ _ _ _ jz
        have f2' : (putB y3 bb (.cells #[Value.int .i64 2, .int .i64 fk, .int .i64 (L0.length : Nat), .int .u64 (fad : Nat), .bool fsto] 67)).frozen? ⟨bb, 4, none⟩ = false := putB_frozen_same _ _ _ jz
        have HOp := Lib.hid (And.intro hOp jz)
        clear hOp hbn j1 j2
        go_upto_region 18 with (fail)
        have hOp2 : Only (fun b => b = bb) Y2 (putB y3 bb (.cells #[Value.int .i64 2, .int .i64 fk, .int .i64 (L0.length : Nat), .int .u64 (fad : Nat), .bool sto] 67)) := HOp.out.1.putB _ (fun _ => rfl)
        have hbn := putB_same (.cells #[Value.int .i64 2, .int .i64 fk, .int .i64 (L0.length : Nat), .int .u64 (fad : Nat), .bool sto] 67) HOp.out.2
        clear s1 s2 c2 f2' jb jf jz
        generalize putB y3 bb (.cells #[Value.int .i64 2, .int .i64 fk, .int .i64 (L0.length : Nat), .int .u64 (fad : Nat), .bool sto] 67) = y4 at *
        have hI4 := isW_put HIY.out.1 hOp2 (show ¬ pb = bb by have := HI3.out.2.2.2; omega) (fun b hb e => by have := HI3.out.2.2.2; omega)
        have HI4 := Lib.hid (And.intro (HIY.out.2.1.trans (hOp2.mono fun b _ e => .inl (.inr e))) hbn)
        have hg : Calls Try.prog 20 #[.pointer (some ⟨pb, 0, none⟩), .int .u64 0, .bool false] y4 (fun e y => e = .returned (.tuple #[]) ∧ IsW y (pb + 1) pb 1 table va v L0 (-1) true ∧ Only (fun b => b = pb) y4 y) := give_no hI4 0
        clear hOp2 hbn hI4
        go_wp2_with fail
        (with_reducible refine hg.mono ?_)
        rintro e y5 ⟨rfl, hI5, hO5⟩
        have HY5 := Lib.hid (And.intro hI5 hO5)
        clear hI5 hO5 hg
        go_wp2
        refine Met.intro (hJ2 _ _ (by kernel_rfl) ?_ ?_)
        · refine ⟨L0.length, table, v, L0, al ++ [T], -1, true, ⟨2, fk, (al.length : Int), fad, sto⟩, ?_, rfl, ?_, HY5.out.1, HI4.out.1.trans (HY5.out.2.mono fun b _ e => .inl (.inl e)), ?_, fun h => (by cases h), fun _ => ⟨HE.out.1, HE.out.2.1, fun _ => HE.out.2.2.2.symm⟩⟩
          · rw [HE.out.2.2.1]; show Value.int .i64 ((C : Int) + nq) = _; simp
          · have := HF.out.1.la; have := HF.out.1.l3; simp; omega
          · rw [HF.out.1.la]; exact keep_only HY5.out.2 (show ¬ bb = pb by have := HI3.out.2.2.2; omega) HI4.out.2
        · rw [H17.out]
          exact dwMu0 _ _ _ rfl HF.out.2.1
end Go.Proofs.Ytlbehhbicmmdoaa
namespace Go.Proofs.Ytlbehhbicmmdoaa
set_option linter.unusedVariables false
set_option linter.unusedSimpArgs false
open Go.RowKit
set_option maxHeartbeats 16000000 in
set_option maxRecDepth 100000 in
theorem docWalk_let {w : World} {dm : Nat} {pgs : Nat → List Nat} {wd : Nat → Nat} (hD : DocM w dm 40 pgs) (hw : ∀ a, okM 40 a = true → getN (pgs (a / 4096)) (a % 4096) 8 = wd a) (hraw : ∀ a, rawM 40 wd a < 18446744073709551616) (two root va : Nat) (htwo : two < 18446744073709551616) (hroot : root < 18446744073709551616) (hva : va < 18446744073709551616) (access : Int) (hi : ¬ 281474976710656 ≤ va) (hr : ¬ (root % 4096 ≠ 0 ∨ 1099511627776 ≤ root)) (hx : ((walkN (raw1N (rawM 40 wd) (okM 40) two) (ok1N (rawM 40 wd) (okM 40) two) 1 va 4 0 root).2 = 0 ∧ allowsB (lastN (walkN (raw1N (rawM 40 wd) (okM 40) two) (ok1N (rawM 40 wd) (okM 40) two) 1 va 4 0 root).1).d.r (lastN (walkN (raw1N (rawM 40 wd) (okM 40) two) (ok1N (rawM 40 wd) (okM 40) two) 1 va 4 0 root).1).d.w (lastN (walkN (raw1N (rawM 40 wd) (okM 40) two) (ok1N (rawM 40 wd) (okM 40) two) 1 va 4 0 root).1).d.x access = true)) :
    Calls Try.prog 37 #[.pointer (some ⟨dm, 0, none⟩), .int .u64 (two : Nat), .bool true, .int .u64 (root : Nat), .int .u64 (va : Nat), .int .i64 access] w (RetDoc w (nestN (rawM 40 wd) (okM 40) two true root va access)) := by
  obtain ⟨sto, hsto⟩ : ∃ sto, (access == 2) = sto := ⟨_, rfl⟩
  have hsd : decide (access = 2) = sto := by rw [← hsto]; rfl
  have HSD := Lib.hid hsd
  obtain ⟨q, hq⟩ : ∃ q, nestN (rawM 40 wd) (okM 40) two true root va access = q := ⟨_, rfl⟩
  rw [hq]
  have HQ := Lib.hid hq
  have hsec : ∀ y, Old w y → ∀ a, a < 18446744073709551616 → ∀ ac, Calls Try.prog 34 #[.pointer (some ⟨dm, 0, none⟩), .int .u64 (two : Nat), .int .u64 (a : Nat), .int .i64 ac] y (RetDoc y (secondN (rawM 40 wd) (okM 40) two a ac)) := fun y hy a ha ac => docSecond_calls (docM_old hD hy) hw hraw two a htwo ha ac
  have hwc : ∀ y, Old w y → ∀ a, a < 18446744073709551616 → Calls Try.prog 61 #[.pointer (some ⟨dm, 0, none⟩), .int .u64 (a : Nat)] y (RetB y (.tuple #[.int .u64 (rawM 40 wd a : Nat), .bool (okM 40 a)])) := fun y hy a ha => word_calls (docM_old hD hy) hw a ha
  have HU := Lib.hid (And.intro htwo (And.intro hroot (And.intro hva (And.intro hsec (And.intro hwc hraw)))))
  clear hD hw hraw hsd hq hsec hwc htwo hroot hva
  go_enter Try.func37, Try.ntmps37
  go_upto_region 2 with (fail)
  have hH := holds_new #[Value.int .i64 0, .int .i64 0, .int .i64 0, .int .u64 0, .bool false] 67 (holds_new #[Value.int .i64 0, .int .u64 0, .bool false, .bool false, .bool false, .bool false, .bool false, .bool false] 77 (holds_nil w))
  simp only [World.size_alloc] at hH
  have hsz : ((w.alloc (.cells #[Value.int .i64 0, .int .u64 0, .bool false, .bool false, .bool false, .bool false, .bool false, .bool false] 77)).alloc (.cells #[Value.int .i64 0, .int .i64 0, .int .i64 0, .int .u64 0, .bool false] 67)).heap.size = w.heap.size + 1 + 1 := by simp only [World.size_alloc]
  generalize ((w.alloc (.cells #[Value.int .i64 0, .int .u64 0, .bool false, .bool false, .bool false, .bool false, .bool false, .bool false] 77)).alloc (.cells #[Value.int .i64 0, .int .i64 0, .int .i64 0, .int .u64 0, .bool false] 67)) = X1 at *
  obtain ⟨b9, hb9⟩ : ∃ b9, b9 = w.heap.size + 1 := ⟨_, rfl⟩
  obtain ⟨b8, hb8⟩ : ∃ b8, b8 = w.heap.size := ⟨_, rfl⟩
  rw [← hb9, ← hb8] at hH
  rw [← hb9, ← hb8]
  have HB := Lib.hid (And.intro hb8 (And.intro hb9 hsz))
  have HNE : Hid (b8 ≠ b9 ∧ w.heap.size ≤ b8 ∧ w.heap.size ≤ b9) := Lib.hid (by omega)
  obtain ⟨hO, hK9, hK8, -⟩ := id hH
  have HK := Lib.hid (And.intro hO (And.intro hK9 hK8))
  clear hb8 hb9 hsz hH hO hK9 hK8
  have hi1 : decide ((281474976710656 : Int) ≤ (va : Int)) = false := decide_eq_false (by omega)
  have hr1 : ((root : Int) % 4096 != 0) = false := by simp; omega
  have hr2 : decide ((1099511627776 : Int) ≤ (root : Int)) = false := decide_eq_false (by omega)
  have hqd := HQ.out
  unfold nestN at hqd
  rw [HSD.out] at hqd
  replace hqd := ((if_neg hi).trans ((if_neg (by simp)).trans (if_neg hr))).symm.trans hqd
  have hok := walk_ok (raw1N (rawM 40 wd) (okM 40) two) (ok1N (rawM 40 wd) (okM 40) two) 1 va 4 0 root rfl (by decide)
  have hstart : DOn (rawM 40 wd) (okM 40) two va root [] [] _ _ := don_start root
  have hlen := ask_length (raw := raw1N (rawM 40 wd) (okM 40) two) (ok := ok1N (rawM 40 wd) (okM 40) two) (st := 1) (addr := va) 4 0 root
  dsimp only at hqd
  generalize walkN (raw1N (rawM 40 wd) (okM 40) two) (ok1N (rawM 40 wd) (okM 40) two) 1 va 4 0 root = Rr at *
  generalize askN (raw1N (rawM 40 wd) (okM 40) two) (ok1N (rawM 40 wd) (okM 40) two) 1 va 4 0 root = Z at *
  have HX := Lib.hid hx
  have HQD := Lib.hid hqd
  have HOK := Lib.hid (And.intro hok (And.intro hstart hlen))
  clear hqd hok hstart hlen hi hr HQ hx
  go_upto_region 10 with (fail)
  have hbb := new_block X1 (.cells #[Value.int .i64 0, .int .i64 0, .int .i64 0, .int .u64 0, .bool false] 67)
  have hO2 := old_alloc (old_refl X1) (.cells #[Value.int .i64 0, .int .i64 0, .int .i64 0, .int .u64 0, .bool false] 67)
  generalize X1.alloc (.cells #[Value.int .i64 0, .int .i64 0, .int .i64 0, .int .u64 0, .bool false] 67) = X2 at *
  obtain ⟨bb, hbbe⟩ : ∃ bb, bb = X1.heap.size := ⟨_, rfl⟩
  rw [← hbbe] at hbb ⊢
  have HK2 := Lib.hid (And.intro (old_then HK.out.1 hO2) (And.intro (keep_old hO2 HK.out.2.1) (And.intro (keep_old hO2 HK.out.2.2) (And.intro hbb (show b8 < bb ∧ b9 < bb ∧ w.heap.size ≤ bb by have := HB.out; omega)))))
  have hbg := begin_calls 1 root va X2
  clear hbb hO2 hbbe
  go_wp2_with fail
  (with_reducible refine hbg.mono ?_)
  rintro e x3 ⟨rfl, hI3, hO3⟩
  obtain ⟨pb, hpb⟩ : ∃ pb, pb = X2.heap.size := ⟨_, rfl⟩
  rw [← hpb] at hI3 ⊢
  have HI3 := Lib.hid (And.intro hI3 (And.intro hO3 (And.intro hpb (show bb < pb by have := lt_of_block HK2.out.2.2.2.1; omega))))
  clear hbg hI3 hO3 hpb hi1 hr1 hr2
  go_wp2
  refine wp_loopF [false, false, false, false, false, false, false, false, false, false, false, false, false, false, false, false, true, true, false, false, true, true, true, true, true, true, false, false, false, false, false, false, false, false, false, false, false, false, false, false, false, false, false, false, false, false, false, false, false, false, false, false, false, false, false, false, false, false, false, false, false, false, false, false, true, true, true, true, true, true, true, true, true, true, true, true, true, true, true, true, true, true, true, true, true, true, true, true, true, true, true, true, true, true, true, true, true, true, true, true, true, true, true, true, true, true, true, true, true, true, true, true, true, true, true, true, true, true, true] (fun f y => ∃ (lv table : Nat) (v : Value) (L0 : List St) (al : List Nat) (kind : Int) (over : Bool) (b5 : F5), f 16 = .int .i64 (costsN (rawM 40 wd) (okM 40) two al : Nat) ∧ f 17 = .int .i64 (lv : Nat) ∧ al.length ≤ 4 ∧ IsW y (pb + 1) pb 1 table va v L0 kind over ∧ Only (fun b => (b = pb ∨ b = bb) ∨ pb + 1 ≤ b) x3 y ∧
    y.heap[bb]? = some (.cells b5.cells 67) ∧
    (over = false → kind = 4 ∧ lv = L0.length ∧ DOn (rawM 40 wd) (okM 40) two va table L0 al Rr Z ∧ freshV (f 84) (f 25) = true) ∧ (over = true → Rr = (L0, kind) ∧ Z = al ∧ (kind = -1 → b5 = keptN (rawM 40 wd) (okM 40) two sto al))) (fun f => 2 * (5 - (intOf (f 17)).toNat) + (bif freshV (f 84) (f 25) then 1 else 0)) ?start2 ?round2
  case start2 =>
    refine ⟨0, root, _, [], [], 4, _, F0, rfl, rfl, by simp, HI3.out.1, Only.refl _ _, keep_old HI3.out.2.1 HK2.out.2.2.2.1, fun _ => ⟨rfl, rfl, HOK.out.2.1, rfl⟩, fun h => ?_⟩
    exact absurd h (by decide)
  case round2 =>
    intro f2 wq hrel J2 K2 hJ2 hM2
    dsimp only [mergeA, mergeL, Nat.reduceAdd]
    obtain ⟨lv, table, v, L0, al, kind, over, b5, h16, h17, hal4, hI, hOn, hB5, hf, ht⟩ := hrel
    rw [h16, h17]
    obtain ⟨C, hC⟩ : ∃ C, costsN (rawM 40 wd) (okM 40) two al = C := ⟨_, rfl⟩
    have hC20 : C ≤ 20 := by rw [← hC]; exact costs_4 hal4
    rw [hC]
    have H17 := Lib.hid h17
    obtain ⟨k1, q1, z1⟩ := of_block hI.hp
    have HI2 := Lib.hid (And.intro hI (And.intro hOn (And.intro hB5 hC)))
    have HFT := Lib.hid (And.intro hf ht)
    have HOW : Hid (Old w wq) := Lib.hid (Only.to_below (((Only.of_below HK2.out.1).step (Only.of_below HI3.out.2.1) (fun b hb e => e)).step hOn (fun b hb e => by have := HI3.out.2.2; have := HK2.out.1.size; have := HK2.out.2.2.2.2; omega)))
    have c20 : (C : Int) ≤ 20 := by omega
    have HC4 := Lib.hid hal4
    clear h16 h17 hI hOn hB5 hf ht hC hC20 hal4
    cases over
    case true =>
      obtain ⟨hRe, hZe, hb5⟩ := HFT.out.2 rfl
      clear HFT
      subst hRe
      subst hZe
      have hqd := HQD.out
      have hok := HOK.out.1
      have hx := HX.out
      clear HQD HOK HX
      (try dsimp only at hqd)
      (try dsimp only at hok)
      (try dsimp only at hx)
      have HQD := Lib.hid hqd
      have HOK := Lib.hid hok
      clear hqd hok
      obtain ⟨a3, c3, rfl, hl3, hm3', -, q3⟩ := own_value HI2.out.1.own
      have HOWN := Lib.hid (And.intro HI2.out.1.own q3)
      have hnb : ∀ b, b < bb → ¬ ((b = pb ∨ b = bb) ∨ pb + 1 ≤ b) := fun b hb => by have := HI3.out.2.2.2; omega
      have K9q := keep_only HI2.out.2.1 (hnb b9 (by have := HK2.out.2.2.2.2; omega)) (keep_old HI3.out.2.1 HK2.out.2.1)
      have K8q := keep_only HI2.out.2.1 (hnb b8 (by have := HK2.out.2.2.2.2; omega)) (keep_old HI3.out.2.1 HK2.out.2.2.1)
      have HKQ := Lib.hid (And.intro K8q (And.intro K9q (And.intro HI2.out.2.2.1 HOW.out)))
      have HNB : Hid (bb ≠ b8 ∧ bb ≠ b9) := Lib.hid (by have := HK2.out.2.2.2.2; omega)
      have HB5 := Lib.hid hb5
      clear hl3 hm3' q3 hnb K9q K8q hb5
      go_upto_region 26 with (fail)
      clear k1 q1 z1
      refine wp_region_walked (S := Old wq) (by kernel_rfl) (by kernel_rfl) (old_drew (old_refl _)) ?_
      apply walked_cons
      · intro wS hS
        have HS := Lib.hid hS
        clear hS
        go_wp2
        exact ⟨rfl, rfl, HS.out⟩
      · rfl
      (try simp only [Act.put, List.setIfInBounds_toArray, List.set_cons_succ, List.set_cons_zero])
      apply walked_cons
      · intro wS hS
        have HS := Lib.hid hS
        clear hS
        go_wp2
        exact ⟨rfl, rfl, HS.out⟩
      · rfl
      (try simp only [Act.put, List.setIfInBounds_toArray, List.set_cons_succ, List.set_cons_zero])
      apply walked_cons
      · intro wS hS
        have HS := Lib.hid hS
        clear hS
        go_wp2
        exact ⟨rfl, rfl, HS.out⟩
      · rfl
      (try simp only [Act.put, List.setIfInBounds_toArray, List.set_cons_succ, List.set_cons_zero])
      apply walked_cons
      · intro wS hS
        obtain ⟨k9, -, -⟩ := of_block (keep_old hS HI2.out.1.hp)
        have HS := Lib.hid hS
        clear hS
        go_wp2
        exact ⟨rfl, rfl, HS.out⟩
      · rfl
      (try simp only [Act.put, List.setIfInBounds_toArray, List.set_cons_succ, List.set_cons_zero])
      apply walked_cons
      · intro wS hS
        have HS := Lib.hid hS
        clear hS
        go_wp2
        exact ⟨rfl, rfl, HS.out⟩
      · rfl
      (try simp only [Act.put, List.setIfInBounds_toArray, List.set_cons_succ, List.set_cons_zero])
      apply walked_cons
      · intro wS hS
        have HS := Lib.hid hS
        clear hS
        go_wp2
        exact ⟨rfl, rfl, HS.out⟩
      · rfl
      (try simp only [Act.put, List.setIfInBounds_toArray, List.set_cons_succ, List.set_cons_zero])
      apply walked_cons
      · intro wS hS
        have HS := Lib.hid hS
        clear hS
        go_wp2
        exact ⟨rfl, rfl, HS.out⟩
      · rfl
      (try simp only [Act.put, List.setIfInBounds_toArray, List.set_cons_succ, List.set_cons_zero])
      apply walked_cons
      · intro wS hS
        obtain ⟨k9, -, -⟩ := of_block (keep_old hS HI2.out.1.hp)
        have HS := Lib.hid hS
        clear hS
        go_wp2
        exact ⟨rfl, rfl, HS.out⟩
      · rfl
      (try simp only [Act.put, List.setIfInBounds_toArray, List.set_cons_succ, List.set_cons_zero])
      apply walked_cons
      · intro wS hS
        have HS := Lib.hid hS
        clear hS
        go_wp2
        exact ⟨rfl, rfl, HS.out⟩
      · rfl
      (try simp only [Act.put, List.setIfInBounds_toArray, List.set_cons_succ, List.set_cons_zero])
      apply walked_cons
      · intro wS hS
        have HS := Lib.hid hS
        clear hS
        go_wp2
        exact ⟨rfl, rfl, HS.out⟩
      · rfl
      (try simp only [Act.put, List.setIfInBounds_toArray, List.set_cons_succ, List.set_cons_zero])
      apply walked_nil
      intro wS hS
      have hcs0 := own_old HOWN.out.1 hS
      have HCS0 := Lib.hid hcs0
      have HKX := Lib.hid (And.intro (keep_old hS HKQ.out.1) (And.intro (keep_old hS HKQ.out.2.1) (And.intro (keep_old hS HKQ.out.2.2.1) (old_then HKQ.out.2.2.2 hS))))
      clear hS hcs0
      have hK : ¬ kind = -1 := (by rw [hx.1]; decide)
      have hk1 : (kind == -1) = false := by simp [hK]
      obtain ⟨m, hmL⟩ : ∃ m, m = L0.length := ⟨_, rfl⟩
      have hn1 : 1 ≤ m := by
        have := HOK.out.some_ hK
        rw [hmL]; exact this
      obtain ⟨s, hs0, hs1, hs⟩ := last_mem (l := L0) (by rw [← hmL]; exact hn1)
      rw [← hmL] at hs
      obtain ⟨f1, f2', f3, f4⟩ := way_at HOK.out.way hs
      have hl4 : m ≤ 4 := by rw [hmL]; exact HOK.out.len
      obtain ⟨g1, rfl⟩ := HOWN.out.2 (by rw [← hmL]; omega)
      have hcs : ∀ (c : Nat) (u : Value), s.cells[c]? = some u → wS.cell? ⟨g1, (m - 1) * 9 + c, none⟩ = some u := fun c u hu => own_cell HCS0.out rfl _ (stCells_get L0 _ s c u hs hu)
      have hlvs : s.lv = m - 1 := by rw [f1]; omega
      have HLV := Lib.hid hlvs
      clear hlvs
      have HS1 := Lib.hid hs1
      have HX := Lib.hid hx
      obtain ⟨slv, sat, sraw, ⟨dk, da, dr, dw, dx, dS⟩⟩ := s
      have hcs2 : ∀ (c : Nat) (u : Value), [Value.int .i64 (slv : Nat), .int .u64 (sat : Nat), .int .u64 (sraw : Nat), .int .i64 dk, .int .u64 (da : Nat), .bool dr, .bool dw, .bool dx, .int .i64 dS][c]? = some u → wS.cell? ⟨g1, (m - 1) * 9 + c, none⟩ = some u := hcs
      have hda : da < 18446744073709551616 := f4
      have HCS := Lib.hid hcs2
      have HDA := Lib.hid hda
      have hlen : L0.length = m := hmL.symm
      rw [hlen]
      have hn1' : ((m - 1 : Nat) : Int) = (m : Int) - 1 := by omega
      have n4 : (m : Int) ≤ 4 := by omega
      have hge : (0 : Int) ≤ (m : Int) - 1 := by omega
      have hlt : (m : Int) - 1 < m := by omega
      have htn : ((m : Int) - 1).toNat = m - 1 := by omega
      have HLEN := Lib.hid hlen
      have HKI := Lib.hid hK
      clear hlen hmL hn1 hs0 hs1 hs f1 f2' f3 f4 hl4 hcs hcs2 hda hK HOK hx HB5
      go_upto_region 30 with (refine wpList_load_at rfl 54 _ rfl g1 ((m - 1) * 9) rfl [Value.int .i64 (slv : Nat), .int .u64 (sat : Nat), .int .u64 (sraw : Nat), .int .i64 dk, .int .u64 (da : Nat), .bool dr, .bool dw, .bool dx, .int .i64 dS] _ HCS.out Try.underlying54 rfl (by kernel_rfl) ?_)
      have hO3 := old_alloc (old_refl wS) (.cells #[Value.int .i64 (slv : Nat), .int .u64 (sat : Nat), .int .u64 (sraw : Nat), .int .i64 dk, .int .u64 (da : Nat), .bool dr, .bool dw, .bool dx, .int .i64 dS] 54)
      have hxb := new_block wS (.cells #[Value.int .i64 (slv : Nat), .int .u64 (sat : Nat), .int .u64 (sraw : Nat), .int .i64 dk, .int .u64 (da : Nat), .bool dr, .bool dw, .bool dx, .int .i64 dS] 54)
      generalize wS.alloc (.cells #[Value.int .i64 (slv : Nat), .int .u64 (sat : Nat), .int .u64 (sraw : Nat), .int .i64 dk, .int .u64 (da : Nat), .bool dr, .bool dw, .bool dx, .int .i64 dS] 54) = X4 at *
      obtain ⟨bl, hbl⟩ : ∃ bl, bl = wS.heap.size := ⟨_, rfl⟩
      rw [← hbl] at hxb ⊢
      have HBL : Hid (bl ≠ b8 ∧ bl ≠ b9) := Lib.hid (by have h1 := lt_of_block HKX.out.1; have h2 := lt_of_block HKX.out.2.1; omega)
      have HK3 := Lib.hid (And.intro (keep_old hO3 HKX.out.1) (And.intro (keep_old hO3 HKX.out.2.1) (And.intro hxb (old_then HKX.out.2.2.2 hO3))))
      clear hO3 hbl HCS hn1' hge hlt htn HKX HCS0 hk1
      have hk0 : kind = 0 := HX.out.1
      have hal : allowsB dr dw dx access = true := by
        have h9 := HX.out.2
        rw [HS1.out] at h9
        exact h9
      have hqd := HQD.out
      rw [HS1.out] at hqd
      subst hk0
      have HQD := Lib.hid hqd
      have HALL := Lib.hid (allows14_calls dr dw dx access)
      have hc := HALL.out X4
      rw [hal] at hc
      have HAL := Lib.hid hal
      obtain ⟨km, qm, zm⟩ := of_block hxb
      clear hqd hal hxb
      go_wp2_with fail
      (with_reducible refine hc.mono ?_)
      rintro e x4 ⟨rfl, hO4⟩
      have HKX := Lib.hid (And.intro (keep_old hO4 HK3.out.1) (And.intro (keep_old hO4 HK3.out.2.1) (And.intro (keep_old hO4 HK3.out.2.2.1) (old_then HK3.out.2.2.2 hO4))))
      clear hO4 hc km qm zm
      have hqd := HQD.out
      obtain ⟨ou, hou⟩ : ∃ ou, outN va slv dk da = ou := ⟨_, rfl⟩
      have hol : ou < 18446744073709551616 := by
        rw [← hou]
        unfold outN; split
        · exact Nat.mod_lt _ (by decide)
        · decide
      have hout := fun x => refOut_calls va HU.out.2.2.1 slv sat sraw dk da HDA.out dr dw dx dS x
      rw [hou] at hout
      obtain ⟨q3, hq3⟩ : ∃ q3, secondN (rawM 40 wd) (okM 40) two ou access = q3 := ⟨_, rfl⟩
      have hsk3 := second_ok (raw := rawM 40 wd) (ok := okM 40) two ou access
      have hqe : q = (if q3.2.1.k = 0 then { q3.1 with r1 := dr, w1 := dw, x1 := dx } else q3.1, q3.2.1, C + q3.2.2) := by
        rw [← hqd, ← HI2.out.2.2.2]
        refine ((if_neg (by decide)).trans ((if_neg (by simp)).trans (if_neg (by rw [HAL.out]; simp)))).trans ?_
        (try dsimp only)
        rw [hou, hq3]
      have hsc := fun y (hy : Old w y) => HU.out.2.2.2.1 y hy ou hol access
      simp only [hq3] at hsc
      rw [hq3] at hsk3
      obtain ⟨⟨pfr, pip, p1, p2, p3, p4, p5, p6⟩, ⟨gst, gk, glv, gad, gsto⟩, nq⟩ := q3
      have n4' : nq ≤ 4 := hsk3.n4
      have n5 : (nq : Int) ≤ 4 := by omega
      have HQE := Lib.hid (And.intro hqe hsk3)
      have HSC := Lib.hid hsc
      have hc := hout x4
      obtain ⟨km, qm, zm⟩ := of_block HKX.out.2.2.1
      clear hqd hou hol hout hq3 hsk3 hqe hsc n4' HQD
      go_wp2_with fail
      (with_reducible refine hc.mono ?_)
      rintro e y5 ⟨rfl, hO5⟩
      have hc := HSC.out y5 (old_then HKX.out.2.2.2 hO5)
      have HO5 := Lib.hid hO5
      clear hO5 km qm zm
      go_wp2_with fail
      (with_reducible refine hc.mono ?_)
      rintro e y6 ⟨rfl, hO6⟩
      have HO6 := Lib.hid (old_then HO5.out hO6)
      clear hc hO6
      dsimp only [O8.cells, F5.cells]
      obtain ⟨Y6, hY6, hOY6, hoc, hfc, hsY6, i1, i2⟩ := pair_new y6 #[Value.int .i64 0, .int .u64 0, .bool false, .bool false, .bool false, .bool false, .bool false, .bool false] #[Value.int .i64 0, .int .i64 0, .int .i64 0, .int .u64 0, .bool false] #[Value.int .i64 (pfr : Nat), .int .u64 (pip : Nat), .bool p1, .bool p2, .bool p3, .bool p4, .bool p5, .bool p6] #[Value.int .i64 gst, .int .i64 gk, .int .i64 glv, .int .u64 (gad : Nat), .bool gsto] 77 67
      have HY6 := Lib.hid (And.intro hOY6 (And.intro hoc (And.intro hfc hsY6)))
      have HEY6 := Lib.hid hY6
      have I1Y6 := Lib.hid i1
      have I2Y6 := Lib.hid i2
      clear hY6 hOY6 hoc hfc hsY6 i1 i2
      go_upto_region 35 with (first | (refine wpList_store_whole rfl 77 _ _ rfl y6.heap.size [Value.int .i64 (pfr : Nat), .int .u64 (pip : Nat), .bool p1, .bool p2, .bool p3, .bool p4, .bool p5, .bool p6] rfl rfl 77 _ I1Y6.out (by kernel_rfl) rfl (by intro v hv; simp only [List.mem_cons, List.not_mem_nil, or_false] at hv; rcases hv with rfl | rfl | rfl | rfl | rfl | rfl | rfl | rfl <;> rfl) ?_) | (refine wpList_store_whole rfl 67 _ _ rfl (y6.heap.size + 1) [Value.int .i64 gst, .int .i64 gk, .int .i64 glv, .int .u64 (gad : Nat), .bool gsto] rfl rfl 67 _ I2Y6.out (by kernel_rfl) rfl (by intro v hv; simp only [List.mem_cons, List.not_mem_nil, or_false] at hv; rcases hv with rfl | rfl | rfl | rfl | rfl <;> rfl) ?_))
      rw [← HEY6.out]
      clear HEY6 I1Y6 I2Y6
      obtain ⟨fc, hfc⟩ : ∃ fc, fc = y6.heap.size + 1 := ⟨_, rfl⟩
      obtain ⟨oc, hoc⟩ : ∃ oc, oc = y6.heap.size := ⟨_, rfl⟩
      rw [← hfc, ← hoc]
      rw [← hfc, ← hoc] at HY6
      have HBY6 := Lib.hid (And.intro hoc hfc)
      clear hfc hoc
      have hOY := old_then HO6.out HY6.out.1
      have HKY := Lib.hid (And.intro (keep_old hOY HKX.out.1) (And.intro (keep_old hOY HKX.out.2.1) (And.intro (keep_old hOY HKX.out.2.2.1) (old_then HKX.out.2.2.2 hOY))))
      have HNC : Hid ((oc ≠ b8 ∧ oc ≠ b9 ∧ fc ≠ b8 ∧ fc ≠ b9) ∧ oc ≠ fc ∧ w.heap.size ≤ oc) := Lib.hid (by have h1 := lt_of_block HKX.out.1; have h2 := lt_of_block HKX.out.2.1; have h3 := HO6.out.size; have h4 := HBY6.out; have h5 := HKX.out.2.2.2.size; omega)
      obtain ⟨j1, -, -⟩ := of_block HY6.out.2.1
      obtain ⟨j2, -, -⟩ := of_block HY6.out.2.2.1
      obtain ⟨j3, -, -⟩ := of_block HKY.out.2.2.1
      clear hOY
      by_cases hg0 : gk = 0
      · have hgs : gst = 0 := by
          obtain ⟨hF0, -⟩ := HQE.out.2.yes hg0
          have hF1 : (⟨gst, gk, glv, gad, gsto⟩ : F5) = F0 := hF0
          injection hF1
        have HQ6 : Hid (q = (⟨pfr, pip, dr, dw, dx, p4, p5, p6⟩, ⟨gst, gk, glv, gad, gsto⟩, C + nq)) := Lib.hid (by
          rw [HQE.out.1]
          (try dsimp only)
          rw [if_pos hg0])
        subst hgs
        have HOC := Lib.hid HY6.out.2.1
        have hnc := HNC.out.1
        have HNC2 := Lib.hid hnc
        clear hg0 hnc
        go_upto_region 37 with (refine wpList_store_at rfl 46 _ _ rfl oc 2 [Value.bool dr, .bool dw, .bool dx] rfl rfl 77 _ HOC.out (by kernel_rfl) (by show 5 ≤ 8; decide) (by intro v hv; simp only [List.mem_cons, List.not_mem_nil, or_false] at hv; rcases hv with rfl | rfl | rfl <;> rfl) ?_)
        clear j1 j2 j3
        change Code.wp _ _ _ _ (putB Y6 oc (.cells #[Value.int .i64 (pfr : Nat), .int .u64 (pip : Nat), .bool dr, .bool dw, .bool dx, .bool p4, .bool p5, .bool p6] 77))
        have HKZ : Hid ((putB Y6 oc (.cells #[Value.int .i64 (pfr : Nat), .int .u64 (pip : Nat), .bool dr, .bool dw, .bool dx, .bool p4, .bool p5, .bool p6] 77)).heap[b8]? = _ ∧ (putB Y6 oc (.cells #[Value.int .i64 (pfr : Nat), .int .u64 (pip : Nat), .bool dr, .bool dw, .bool dx, .bool p4, .bool p5, .bool p6] 77)).heap[b9]? = _ ∧ (putB Y6 oc (.cells #[Value.int .i64 (pfr : Nat), .int .u64 (pip : Nat), .bool dr, .bool dw, .bool dx, .bool p4, .bool p5, .bool p6] 77)).heap[oc]? = _ ∧ (putB Y6 oc (.cells #[Value.int .i64 (pfr : Nat), .int .u64 (pip : Nat), .bool dr, .bool dw, .bool dx, .bool p4, .bool p5, .bool p6] 77)).heap[fc]? = _ ∧ Old w (putB Y6 oc (.cells #[Value.int .i64 (pfr : Nat), .int .u64 (pip : Nat), .bool dr, .bool dw, .bool dx, .bool p4, .bool p5, .bool p6] 77))) :=
          Lib.hid ⟨(putB_other _ HNC.out.1.1).trans HKY.out.1, (putB_other _ HNC.out.1.2.1).trans HKY.out.2.1, putB_same _ (lt_of_block HOC.out), (putB_other _ HNC.out.2.1).trans HY6.out.2.2.1, old_put HKY.out.2.2.2 _ HNC.out.2.2⟩
        generalize putB Y6 oc (.cells #[Value.int .i64 (pfr : Nat), .int .u64 (pip : Nat), .bool dr, .bool dw, .bool dx, .bool p4, .bool p5, .bool p6] 77) = Y7 at *
        replace HNC := HNC2
        obtain ⟨K8, K9, KO, KF, -⟩ := HKZ.out
        clear HQD
        refine wp_region_staged (S := TwoS 5 6 b8 (.cells #[Value.int .i64 (pfr : Nat), .int .u64 (pip : Nat), .bool dr, .bool dw, .bool dx, .bool p4, .bool p5, .bool p6] 77) b9 (.cells #[Value.int .i64 0, .int .i64 gk, .int .i64 glv, .int .u64 (gad : Nat), .bool gsto] 67) Y7.drew) 8 (by kernel_rfl) (by kernel_rfl) (by kernel_rfl) (by decide) (two_start _) ?_
        apply walkedS_cons
        · intro l9 wS hz hn hS
          have hS9 := two_other 0 (by decide) (by decide) hS
          have c9 := two_cell hS HNC.out.1 HNC.out.2.1 KO
          clear hS
          go_wp2
          exact ⟨rfl, rfl, hS9⟩
        · rfl
        (try simp only [Act.put, List.setIfInBounds_toArray, List.set_cons_succ, List.set_cons_zero])
        apply walkedS_cons
        · intro l9 wS hz hn hS
          have hS9 := two_other 1 (by decide) (by decide) hS
          have c9 := two_cell hS HNC.out.2.2.1 HNC.out.2.2.2 KF
          clear hS
          go_wp2
          exact ⟨rfl, rfl, hS9⟩
        · rfl
        (try simp only [Act.put, List.setIfInBounds_toArray, List.set_cons_succ, List.set_cons_zero])
        apply walkedS_cons
        · intro l9 wS hz hn hS
          have hS9 := two_other 2 (by decide) (by decide) hS
          clear hS
          go_wp2
          exact ⟨rfl, rfl, hS9⟩
        · rfl
        (try simp only [Act.put, List.setIfInBounds_toArray, List.set_cons_succ, List.set_cons_zero])
        apply walkedS_cons
        · intro l9 wS hz hn hS
          have hS9 := two_other 3 (by decide) (by decide) hS
          clear hS
          go_wp2
          exact ⟨rfl, rfl, hS9⟩
        · rfl
        (try simp only [Act.put, List.setIfInBounds_toArray, List.set_cons_succ, List.set_cons_zero])
        apply walkedS_cons
        · intro l9 wS hz hn hS
          have hS9 := two_other 4 (by decide) (by decide) hS
          clear hS
          go_wp2
          exact ⟨rfl, rfl, hS9⟩
        · rfl
        (try simp only [Act.put, List.setIfInBounds_toArray, List.set_cons_succ, List.set_cons_zero])
        apply walkedS_cons
        · intro l9 wS hz hn hS
          have hb9 := two_first hn hS HNE.out.1 K8
          have hd9 := two_done1 hz (by decide) (by decide) hn HNE.out.1 hS
          refine wpList_store_whole rfl 77 _ _ rfl b8 [Value.int .i64 (pfr : Nat), .int .u64 (pip : Nat), .bool dr, .bool dw, .bool dx, .bool p4, .bool p5, .bool p6] rfl rfl 77 _ hb9 (by kernel_rfl) rfl (by intro v hv; simp only [List.mem_cons, List.not_mem_nil, or_false] at hv; rcases hv with rfl | rfl | rfl | rfl | rfl | rfl | rfl | rfl <;> rfl) ?_
          exact ⟨rfl, rfl, hd9⟩
        · rfl
        (try simp only [Act.put, List.setIfInBounds_toArray, List.set_cons_succ, List.set_cons_zero])
        apply walkedS_cons
        · intro l9 wS hz hn hS
          have hb9 := two_second hn hS HNE.out.1 K9
          have hd9 := two_done2 hz (by decide) (by decide) hn hS
          refine wpList_store_whole rfl 67 _ _ rfl b9 [Value.int .i64 0, .int .i64 gk, .int .i64 glv, .int .u64 (gad : Nat), .bool gsto] rfl rfl 67 _ hb9 (by kernel_rfl) rfl (by intro v hv; simp only [List.mem_cons, List.not_mem_nil, or_false] at hv; rcases hv with rfl | rfl | rfl | rfl | rfl <;> rfl) ?_
          exact ⟨rfl, rfl, hd9⟩
        · rfl
        (try simp only [Act.put, List.setIfInBounds_toArray, List.set_cons_succ, List.set_cons_zero])
        apply walkedS_cons
        · intro l9 wS hz hn hS
          have hS9 := two_other 7 (by decide) (by decide) hS
          clear hS
          go_wp2
          exact ⟨rfl, rfl, hS9⟩
        · rfl
        (try simp only [Act.put, List.setIfInBounds_toArray, List.set_cons_succ, List.set_cons_zero])
        apply walkedS_nil
        intro l9 wS hz hall hS
        obtain rfl := two_all (hall 5 (by decide)) (hall 6 (by decide)) hS
        clear hS hall hz l9
        show wpList _ _ _ [] _ _
        go_wp2
        have r8 : (putB (putB Y7.drew b8 (.cells #[Value.int .i64 (pfr : Nat), .int .u64 (pip : Nat), .bool dr, .bool dw, .bool dx, .bool p4, .bool p5, .bool p6] 77)) b9 (.cells #[Value.int .i64 0, .int .i64 gk, .int .i64 glv, .int .u64 (gad : Nat), .bool gsto] 67)).heap[b8]? = some (.cells #[Value.int .i64 (pfr : Nat), .int .u64 (pip : Nat), .bool dr, .bool dw, .bool dx, .bool p4, .bool p5, .bool p6] 77) := by rw [putB_other _ (Ne.symm HNE.out.1)]; exact putB_same _ (lt_of_block (show Y7.drew.heap[b8]? = _ from K8))
        have r9 : (putB (putB Y7.drew b8 (.cells #[Value.int .i64 (pfr : Nat), .int .u64 (pip : Nat), .bool dr, .bool dw, .bool dx, .bool p4, .bool p5, .bool p6] 77)) b9 (.cells #[Value.int .i64 0, .int .i64 gk, .int .i64 glv, .int .u64 (gad : Nat), .bool gsto] 67)).heap[b9]? = some (.cells #[Value.int .i64 0, .int .i64 gk, .int .i64 glv, .int .u64 (gad : Nat), .bool gsto] 67) := putB_same _ (by rw [putB_size]; exact lt_of_block (show Y7.drew.heap[b9]? = _ from K9))
        obtain ⟨k8, -, -⟩ := of_block r8
        obtain ⟨k9, -, -⟩ := of_block r9
        refine bodyPost_ret (by simp [results, Try.results37, go_sem, k8, k9]; try rfl) rfl ?_
        rw [HQ6.out]
        exact ⟨rfl, old_put (old_put (old_drew HKZ.out.2.2.2.2) _ HNE.out.2.1) _ HNE.out.2.2⟩
      · have hgs : gst = 2 := (HQE.out.2.no hg0).2.1
        have HQ6 : Hid (q = (⟨pfr, pip, p1, p2, p3, p4, p5, p6⟩, ⟨gst, gk, glv, gad, gsto⟩, C + nq)) := Lib.hid (by
          rw [HQE.out.1]
          (try dsimp only)
          rw [if_neg hg0])
        subst hgs
        have HKZ := Lib.hid (And.intro HKY.out.1 (And.intro HKY.out.2.1 (And.intro HY6.out.2.1 (And.intro HY6.out.2.2.1 HKY.out.2.2.2))))
        have hnc := HNC.out.1
        have HNC2 := Lib.hid hnc
        clear hg0 hnc
        go_upto_region 37 with (fail)
        clear j1 j2 j3
        replace HNC := HNC2
        obtain ⟨K8, K9, KO, KF, -⟩ := HKZ.out
        clear HQD
        refine wp_region_staged (S := TwoS 5 6 b8 (.cells #[Value.int .i64 (pfr : Nat), .int .u64 (pip : Nat), .bool p1, .bool p2, .bool p3, .bool p4, .bool p5, .bool p6] 77) b9 (.cells #[Value.int .i64 2, .int .i64 gk, .int .i64 glv, .int .u64 (gad : Nat), .bool gsto] 67) Y6.drew) 8 (by kernel_rfl) (by kernel_rfl) (by kernel_rfl) (by decide) (two_start _) ?_
        apply walkedS_cons
        · intro l9 wS hz hn hS
          have hS9 := two_other 0 (by decide) (by decide) hS
          have c9 := two_cell hS HNC.out.1 HNC.out.2.1 KO
          clear hS
          go_wp2
          exact ⟨rfl, rfl, hS9⟩
        · rfl
        (try simp only [Act.put, List.setIfInBounds_toArray, List.set_cons_succ, List.set_cons_zero])
        apply walkedS_cons
        · intro l9 wS hz hn hS
          have hS9 := two_other 1 (by decide) (by decide) hS
          have c9 := two_cell hS HNC.out.2.2.1 HNC.out.2.2.2 KF
          clear hS
          go_wp2
          exact ⟨rfl, rfl, hS9⟩
        · rfl
        (try simp only [Act.put, List.setIfInBounds_toArray, List.set_cons_succ, List.set_cons_zero])
        apply walkedS_cons
        · intro l9 wS hz hn hS
          have hS9 := two_other 2 (by decide) (by decide) hS
          clear hS
          go_wp2
          exact ⟨rfl, rfl, hS9⟩
        · rfl
        (try simp only [Act.put, List.setIfInBounds_toArray, List.set_cons_succ, List.set_cons_zero])
        apply walkedS_cons
        · intro l9 wS hz hn hS
          have hS9 := two_other 3 (by decide) (by decide) hS
          clear hS
          go_wp2
          exact ⟨rfl, rfl, hS9⟩
        · rfl
        (try simp only [Act.put, List.setIfInBounds_toArray, List.set_cons_succ, List.set_cons_zero])
        apply walkedS_cons
        · intro l9 wS hz hn hS
          have hS9 := two_other 4 (by decide) (by decide) hS
          clear hS
          go_wp2
          exact ⟨rfl, rfl, hS9⟩
        · rfl
        (try simp only [Act.put, List.setIfInBounds_toArray, List.set_cons_succ, List.set_cons_zero])
        apply walkedS_cons
        · intro l9 wS hz hn hS
          have hb9 := two_first hn hS HNE.out.1 K8
          have hd9 := two_done1 hz (by decide) (by decide) hn HNE.out.1 hS
          refine wpList_store_whole rfl 77 _ _ rfl b8 [Value.int .i64 (pfr : Nat), .int .u64 (pip : Nat), .bool p1, .bool p2, .bool p3, .bool p4, .bool p5, .bool p6] rfl rfl 77 _ hb9 (by kernel_rfl) rfl (by intro v hv; simp only [List.mem_cons, List.not_mem_nil, or_false] at hv; rcases hv with rfl | rfl | rfl | rfl | rfl | rfl | rfl | rfl <;> rfl) ?_
          exact ⟨rfl, rfl, hd9⟩
        · rfl
        (try simp only [Act.put, List.setIfInBounds_toArray, List.set_cons_succ, List.set_cons_zero])
        apply walkedS_cons
        · intro l9 wS hz hn hS
          have hb9 := two_second hn hS HNE.out.1 K9
          have hd9 := two_done2 hz (by decide) (by decide) hn hS
          refine wpList_store_whole rfl 67 _ _ rfl b9 [Value.int .i64 2, .int .i64 gk, .int .i64 glv, .int .u64 (gad : Nat), .bool gsto] rfl rfl 67 _ hb9 (by kernel_rfl) rfl (by intro v hv; simp only [List.mem_cons, List.not_mem_nil, or_false] at hv; rcases hv with rfl | rfl | rfl | rfl | rfl <;> rfl) ?_
          exact ⟨rfl, rfl, hd9⟩
        · rfl
        (try simp only [Act.put, List.setIfInBounds_toArray, List.set_cons_succ, List.set_cons_zero])
        apply walkedS_cons
        · intro l9 wS hz hn hS
          have hS9 := two_other 7 (by decide) (by decide) hS
          clear hS
          go_wp2
          exact ⟨rfl, rfl, hS9⟩
        · rfl
        (try simp only [Act.put, List.setIfInBounds_toArray, List.set_cons_succ, List.set_cons_zero])
        apply walkedS_nil
        intro l9 wS hz hall hS
        obtain rfl := two_all (hall 5 (by decide)) (hall 6 (by decide)) hS
        clear hS hall hz l9
        show wpList _ _ _ [] _ _
        go_wp2
        have r8 : (putB (putB Y6.drew b8 (.cells #[Value.int .i64 (pfr : Nat), .int .u64 (pip : Nat), .bool p1, .bool p2, .bool p3, .bool p4, .bool p5, .bool p6] 77)) b9 (.cells #[Value.int .i64 2, .int .i64 gk, .int .i64 glv, .int .u64 (gad : Nat), .bool gsto] 67)).heap[b8]? = some (.cells #[Value.int .i64 (pfr : Nat), .int .u64 (pip : Nat), .bool p1, .bool p2, .bool p3, .bool p4, .bool p5, .bool p6] 77) := by rw [putB_other _ (Ne.symm HNE.out.1)]; exact putB_same _ (lt_of_block (show Y6.drew.heap[b8]? = _ from K8))
        have r9 : (putB (putB Y6.drew b8 (.cells #[Value.int .i64 (pfr : Nat), .int .u64 (pip : Nat), .bool p1, .bool p2, .bool p3, .bool p4, .bool p5, .bool p6] 77)) b9 (.cells #[Value.int .i64 2, .int .i64 gk, .int .i64 glv, .int .u64 (gad : Nat), .bool gsto] 67)).heap[b9]? = some (.cells #[Value.int .i64 2, .int .i64 gk, .int .i64 glv, .int .u64 (gad : Nat), .bool gsto] 67) := putB_same _ (by rw [putB_size]; exact lt_of_block (show Y6.drew.heap[b9]? = _ from K9))
        obtain ⟨k8, -, -⟩ := of_block r8
        obtain ⟨k9, -, -⟩ := of_block r9
        refine bodyPost_ret (by simp [results, Try.results37, go_sem, k8, k9]; try rfl) rfl ?_
        rw [HQ6.out]
        exact ⟨rfl, old_put (old_put (old_drew HKZ.out.2.2.2.2) _ HNE.out.2.1) _ HNE.out.2.2⟩
    case false =>
      obtain ⟨hk4, hlv, hdo, hfr⟩ := HFT.out.1 rfl
      subst hk4 hlv
      clear HFT
      have l4 : (L0.length : Int) ≤ 3 := by have := hdo.l3; omega
      obtain ⟨T, hT⟩ : ∃ T, atN table va L0.length = T := ⟨_, rfl⟩
      have hat := atW_calls HI2.out.1 HU.out.2.2.1 hdo.l3
      rw [hT] at hat
      have hTl : T < 18446744073709551616 := by rw [← hT]; exact atN_lt _ _ _
      obtain ⟨q2, hq2⟩ : ∃ q2, secondN (rawM 40 wd) (okM 40) two T 1 = q2 := ⟨_, rfl⟩
      have hsk := second_ok (raw := rawM 40 wd) (ok := okM 40) two T 1
      have hsfr := second_fr (raw := rawM 40 wd) (ok := okM 40) two T 1
      have hcs := costs_snocD (raw := rawM 40 wd) (ok := okM 40) (two := two) (al := al) (T := T)
      have hks := kept_snoc (raw := rawM 40 wd) (ok := okM 40) (two := two) (sto := sto) (l := al) (a := T)
      have hok1 : ok1N (rawM 40 wd) (okM 40) two T = (decide (q2.2.1.k = 0) && okM 40 (q2.1.fr * 4096 + T % 4096)) := by unfold ok1N; rw [hq2]
      have hrw1 : raw1N (rawM 40 wd) (okM 40) two T = if ok1N (rawM 40 wd) (okM 40) two T then rawM 40 wd (q2.1.fr * 4096 + T % 4096) else 0 := by unfold raw1N; rw [hq2]
      have hft1 : faultN (rawM 40 wd) (okM 40) two T (al.length : Int) sto = if q2.2.1.k = 0 then ⟨2, 4, (al.length : Int), T, sto⟩ else ⟨q2.2.1.st, q2.2.1.k, (al.length : Int), q2.2.1.ad, sto⟩ := by unfold faultN; rw [hq2]
      have hsc := fun y (hy : Old wq y) => HU.out.2.2.2.1 y (old_then HOW.out hy) T hTl 1
      rw [hq2] at hsk hsfr hcs
      simp only [hq2] at hsc
      obtain ⟨⟨ofr, oip, o1, o2, o3, o4, o5, o6⟩, ⟨fst, fk, flv, fad, fsto⟩, nq⟩ := q2
      have n4' : nq ≤ 4 := hsk.n4
      have n4 : (nq : Int) ≤ 4 := by omega
      have HF := Lib.hid (And.intro hdo (And.intro hfr (And.intro hT (And.intro hTl (And.intro hsk (And.intro hsfr (And.intro hcs (And.intro hks (And.intro hok1 (And.intro hrw1 hft1))))))))))
      have HSC := Lib.hid hsc
      clear n4' hdo hfr hT hTl hq2 hsk hsfr hcs hks hok1 hrw1 hft1 hsc
      go_wp2_with fail
      (with_reducible refine hat.mono ?_)
      rintro e y1 ⟨rfl, hO1⟩
      have hc := HSC.out y1 hO1
      have HO1 := Lib.hid hO1
      clear hat hO1 k1 q1 z1
      go_wp2_with fail
      (with_reducible refine hc.mono ?_)
      rintro e y2 ⟨rfl, hO2⟩
      have HO2 := Lib.hid (old_then HO1.out hO2)
      clear hc hO2
      dsimp only [O8.cells, F5.cells]
      obtain ⟨Y2, hY2, hOY2, hob1, hfb1, hsY2, i1, i2⟩ := pair_new y2 #[Value.int .i64 0, .int .u64 0, .bool false, .bool false, .bool false, .bool false, .bool false, .bool false] #[Value.int .i64 0, .int .i64 0, .int .i64 0, .int .u64 0, .bool false] #[Value.int .i64 (ofr : Nat), .int .u64 (oip : Nat), .bool o1, .bool o2, .bool o3, .bool o4, .bool o5, .bool o6] #[Value.int .i64 fst, .int .i64 fk, .int .i64 flv, .int .u64 (fad : Nat), .bool fsto] 77 67
      have HY2 := Lib.hid (And.intro hOY2 (And.intro hob1 (And.intro hfb1 hsY2)))
      have HEY2 := Lib.hid hY2
      have I1Y2 := Lib.hid i1
      have I2Y2 := Lib.hid i2
      clear hY2 hOY2 hob1 hfb1 hsY2 i1 i2
      go_upto_region 14 with (first | (refine wpList_store_whole rfl 77 _ _ rfl y2.heap.size [Value.int .i64 (ofr : Nat), .int .u64 (oip : Nat), .bool o1, .bool o2, .bool o3, .bool o4, .bool o5, .bool o6] rfl rfl 77 _ I1Y2.out (by kernel_rfl) rfl (by intro v hv; simp only [List.mem_cons, List.not_mem_nil, or_false] at hv; rcases hv with rfl | rfl | rfl | rfl | rfl | rfl | rfl | rfl <;> rfl) ?_) | (refine wpList_store_whole rfl 67 _ _ rfl (y2.heap.size + 1) [Value.int .i64 fst, .int .i64 fk, .int .i64 flv, .int .u64 (fad : Nat), .bool fsto] rfl rfl 67 _ I2Y2.out (by kernel_rfl) rfl (by intro v hv; simp only [List.mem_cons, List.not_mem_nil, or_false] at hv; rcases hv with rfl | rfl | rfl | rfl | rfl <;> rfl) ?_))
      rw [← HEY2.out]
      clear HEY2 I1Y2 I2Y2
      obtain ⟨fb1, hfb1⟩ : ∃ fb1, fb1 = y2.heap.size + 1 := ⟨_, rfl⟩
      obtain ⟨ob1, hob1⟩ : ∃ ob1, ob1 = y2.heap.size := ⟨_, rfl⟩
      rw [← hfb1, ← hob1]
      rw [← hfb1, ← hob1] at HY2
      have HBY2 := Lib.hid (And.intro hob1 hfb1)
      clear hfb1 hob1
      have hOY := old_then HO2.out HY2.out.1
      have HIY := Lib.hid (And.intro (isW_old HI2.out.1 hOY) (And.intro (HI2.out.2.1.trans ((Only.of_below hOY).mono fun b _ f => f.elim)) (And.intro (keep_old hOY HI2.out.2.2.1) (And.intro (old_then HOW.out hOY) (show bb < ob1 ∧ bb < fb1 by have h1 := lt_of_block HI2.out.2.2.1; have h2 := HO2.out.size; have h3 := HBY2.out; omega)))))
      obtain ⟨j1, -, -⟩ := of_block HY2.out.2.1
      obtain ⟨j2, -, -⟩ := of_block HY2.out.2.2.1
      clear hOY
      by_cases hk0 : fk = 0
      · -- a word is asked for
        obtain ⟨hF0, -⟩ := HF.out.2.2.2.2.1.yes hk0
        have e0 : fst = 0 ∧ flv = 0 ∧ fad = 0 ∧ fsto = false := by
          have hF1 : (⟨fst, fk, flv, fad, fsto⟩ : F5) = F0 := hF0
          injection hF1 with a1 a2 a3 a4 a5
          exact ⟨a1, a3, a4, a5⟩
        obtain ⟨rfl, -, -, -⟩ := e0
        obtain ⟨A, hA⟩ : ∃ A, ofr * 4096 + T % 4096 = A := ⟨_, rfl⟩
        obtain ⟨TM, hTM⟩ : ∃ TM, T % 4096 = TM := ⟨_, rfl⟩
        have hTMi : (T : Int) % 4096 = (TM : Int) := by rw [← hTM]; rfl
        have hsf : ofr * 4096 + 4095 < 18446744073709551616 := HF.out.2.2.2.2.2.1
        obtain ⟨u1, u2, u3⟩ := dw_addr ofr TM (by rw [← hTM]; exact Nat.mod_lt _ (by decide)) hsf
        have hAT : ofr * 4096 + TM = A := by rw [← hTM]; exact hA
        rw [hAT] at u3
        have hAl : A < 18446744073709551616 := by
          have h1 : TM < 4096 := by rw [← hTM]; exact Nat.mod_lt _ (by decide)
          rw [← hAT]; omega
        obtain ⟨M4, hM4⟩ : ∃ M4 : Int, (ofr : Int) * 4096 = M4 := ⟨_, rfl⟩
        obtain ⟨okA, hokA⟩ : ∃ okA, okM 40 A = okA := ⟨_, rfl⟩
        obtain ⟨V, hV⟩ : ∃ V, rawM 40 wd A = V := ⟨_, rfl⟩
        have hVl : V < 18446744073709551616 := by rw [← hV]; exact HU.out.2.2.2.2.2 A
        have hwd := HU.out.2.2.2.2.1 Y2 HIY.out.2.2.2.1 A hAl
        rw [hokA, hV] at hwd
        have hok1 : ok1N (rawM 40 wd) (okM 40) two T = okA := by
          rw [HF.out.2.2.2.2.2.2.2.2.1]
          (try dsimp only)
          rw [hA, hokA, decide_eq_true hk0]; rfl
        have hft := HF.out.2.2.2.2.2.2.2.2.2.2
        (try dsimp only at hft)
        rw [if_pos hk0] at hft
        have HW := Lib.hid (And.intro hok1 (And.intro hVl (And.intro hft (And.intro hA hV))))
        clear hF0 hAT hA hTM hsf hokA hV hVl hok1 hft hAl hM4
        go_wp2_with fail
        (with_reducible refine hwd.mono ?_)
        rintro e y3 ⟨rfl, hO3⟩
        have HI3' := Lib.hid (And.intro (isW_old HIY.out.1 hO3) (And.intro (HIY.out.2.1.trans ((Only.of_below hO3).mono fun b _ f => f.elim)) (And.intro (keep_old hO3 HIY.out.2.2.1) (old_then HIY.out.2.2.2.1 hO3))))
        clear hwd hO3 j1 j2 u1 u2 u3
        cases okA
        case false =>
          obtain ⟨hRe, hZe⟩ := don_no HF.out.1 HF.out.2.2.1 HW.out.1
          have hcs := HF.out.2.2.2.2.2.2.1
          rw [HW.out.1, HI2.out.2.2.2] at hcs
          have hks := HF.out.2.2.2.2.2.2.2.1
          rw [HW.out.1, HW.out.2.2.1] at hks
          have HE := Lib.hid (And.intro hRe (And.intro hZe (And.intro hcs hks)))
          have hb3 := HI3'.out.2.2.1
          have HB3 := Lib.hid hb3
          clear hRe hZe hcs hks hb3
          go_upto_region 22 with (refine wpList_store_whole rfl 67 _ _ rfl bb [Value.int .i64 2, .int .i64 4, .int .i64 (L0.length : Nat), .int .u64 (T : Nat), .bool sto] rfl rfl 67 _ HB3.out (by kernel_rfl) rfl (by intro v hv; simp only [List.mem_cons, List.not_mem_nil, or_false] at hv; rcases hv with rfl | rfl | rfl | rfl | rfl <;> rfl) ?_)
          have hOp : Only (fun b => b = bb) y3 (putB y3 bb (.cells #[Value.int .i64 2, .int .i64 4, .int .i64 (L0.length : Nat), .int .u64 (T : Nat), .bool sto] 67)) := (Only.refl _ y3).putB _ (fun _ => rfl)
          have hbn := putB_same (.cells #[Value.int .i64 2, .int .i64 4, .int .i64 (L0.length : Nat), .int .u64 (T : Nat), .bool sto] 67) (lt_of_block HB3.out)
          generalize putB y3 bb (.cells #[Value.int .i64 2, .int .i64 4, .int .i64 (L0.length : Nat), .int .u64 (T : Nat), .bool sto] 67) = y4 at *
          have hI4 := isW_put HI3'.out.1 hOp (show ¬ pb = bb by have := HI3.out.2.2.2; omega) (fun b hb e => by have := HI3.out.2.2.2; omega)
          have HI4 := Lib.hid (And.intro (HI3'.out.2.1.trans (hOp.mono fun b _ e => .inl (.inr e))) hbn)
          have hg : Calls Try.prog 20 #[.pointer (some ⟨pb, 0, none⟩), .int .u64 0, .bool false] y4 (fun e y => e = .returned (.tuple #[]) ∧ IsW y (pb + 1) pb 1 table va v L0 (-1) true ∧ Only (fun b => b = pb) y4 y) := give_no hI4 0
          clear hOp hbn hI4
          go_wp2_with fail
          (with_reducible refine hg.mono ?_)
          rintro e y5 ⟨rfl, hI5, hO5⟩
          have HY5 := Lib.hid (And.intro hI5 hO5)
          clear hI5 hO5 hg
          go_wp2
          refine Met.intro (hJ2 _ _ (by kernel_rfl) ?_ ?_)
          · refine ⟨L0.length, table, v, L0, al ++ [T], -1, true, ⟨2, 4, (al.length : Int), T, sto⟩, ?_, rfl, ?_, HY5.out.1, HI4.out.1.trans (HY5.out.2.mono fun b _ e => .inl (.inl e)), ?_, fun h => (by cases h), fun _ => ⟨HE.out.1, HE.out.2.1, fun _ => HE.out.2.2.2.symm⟩⟩
            · rw [HE.out.2.2.1]; show Value.int .i64 ((C : Int) + nq) = _; simp
            · have := HF.out.1.la; have := HF.out.1.l3; simp; omega
            · rw [HF.out.1.la]; exact keep_only HY5.out.2 (show ¬ bb = pb by have := HI3.out.2.2.2; omega) HI4.out.2
          · rw [H17.out]
            exact dwMu0 _ _ _ rfl HF.out.2.1
        case true =>
          have hrw : raw1N (rawM 40 wd) (okM 40) two T = V := by
            rw [HF.out.2.2.2.2.2.2.2.2.2.1, HW.out.1, if_pos rfl]
            (try dsimp only)
            rw [HW.out.2.2.2.1]; exact HW.out.2.2.2.2
          have hend := don_yes HF.out.1 HF.out.2.2.1 HW.out.1 hrw
          have hcs := HF.out.2.2.2.2.2.2.1
          rw [HW.out.1, HI2.out.2.2.2] at hcs
          have hks := HF.out.2.2.2.2.2.2.2.1
          rw [HW.out.1] at hks
          have hg := give_yes HI3'.out.1 HU.out.2.2.1 HF.out.1.l3 V HW.out.2.1
          rw [HF.out.2.2.1] at hg
          have HE := Lib.hid (And.intro hend hcs)
          clear hend hcs hks hrw
          go_wp2_with fail
          (with_reducible refine hg.mono ?_)
          rintro e y5 ⟨rfl, ⟨v', hI5⟩, hO5⟩
          have HY5 := Lib.hid (And.intro hI5 hO5)
          clear hI5 hO5 hg
          go_wp2
          refine Met.intro (hJ2 _ _ (by kernel_rfl) ?_ ?_)
          · refine ⟨L0.length + 1, _, v', _, al ++ [T], _, _, b5, ?_, by show Value.int .i64 ((L0.length : Int) + 1) = _; simp, ?_, HY5.out.1, HI3'.out.2.1.trans (HY5.out.2.mono fun b _ e => by rcases e with e | e; exact .inl (.inl e); exact .inr e), ?_, fun h => ⟨(HE.out.1.1 h).1, by simp, (HE.out.1.1 h).2, rfl⟩, fun h => ⟨(HE.out.1.2 h).1, (HE.out.1.2 h).2, fun hk => ?_⟩⟩
            · rw [HE.out.2]; show Value.int .i64 ((C : Int) + nq + 1) = _; simp; omega
            · have := HF.out.1.la; have := HF.out.1.l3; simp; omega
            · exact keep_only HY5.out.2 (show ¬ (bb = pb ∨ pb + 1 ≤ bb) by have := HI3.out.2.2.2; omega) HI3'.out.2.2.1
            · exact absurd hk (giveK_ne _ _)
          · rw [H17.out]
            exact dwMu (L0.length : Int) ((L0.length : Int) + 1) (by omega) (by omega) (by have := HF.out.1.l3; omega) _ _
      · -- the second stage lacks it
        obtain ⟨-, hst2, -⟩ := HF.out.2.2.2.2.1.no hk0
        have hst2' : fst = 2 := hst2
        subst hst2'
        have hok1 : ok1N (rawM 40 wd) (okM 40) two T = false := by
          rw [HF.out.2.2.2.2.2.2.2.2.1]
          (try dsimp only)
          rw [decide_eq_false hk0]; rfl
        have hft := HF.out.2.2.2.2.2.2.2.2.2.2
        (try dsimp only at hft)
        rw [if_neg hk0] at hft
        obtain ⟨hRe, hZe⟩ := don_no HF.out.1 HF.out.2.2.1 hok1
        have hcs := HF.out.2.2.2.2.2.2.1
        rw [hok1, HI2.out.2.2.2] at hcs
        have hks := HF.out.2.2.2.2.2.2.2.1
        rw [hok1, hft] at hks
        have HE := Lib.hid (And.intro hRe (And.intro hZe (And.intro hcs hks)))
        have hb3 := HIY.out.2.2.1
        have HB3 := Lib.hid hb3
        have HSZ := Lib.hid (lt_of_block hb3)
        clear hst2 hok1 hft hRe hZe hcs hks hb3 hk0
        go_upto_region 17 with (refine wpList_store_whole rfl 67 _ _ rfl bb [Value.int .i64 2, .int .i64 fk, .int .i64 flv, .int .u64 (fad : Nat), .bool fsto] rfl rfl 67 _ HB3.out (by kernel_rfl) rfl (by intro v hv; simp only [List.mem_cons, List.not_mem_nil, or_false] at hv; rcases hv with rfl | rfl | rfl | rfl | rfl <;> rfl) ?_)
        have hOp : Only (fun b => b = bb) Y2 (putB Y2 bb (.cells #[Value.int .i64 2, .int .i64 fk, .int .i64 flv, .int .u64 (fad : Nat), .bool fsto] 67)) := (Only.refl _ Y2).putB _ (fun _ => rfl)
        have hbn := putB_same (.cells #[Value.int .i64 2, .int .i64 fk, .int .i64 flv, .int .u64 (fad : Nat), .bool fsto] 67) HSZ.out
        generalize putB Y2 bb (.cells #[Value.int .i64 2, .int .i64 fk, .int .i64 flv, .int .u64 (fad : Nat), .bool fsto] 67) = y3 at *
        obtain ⟨jb, jf, jz⟩ := of_block hbn
        have s1 : y3.setCell ⟨bb, 2, none⟩ (.int .i64 (L0.length : Nat)) = putB y3 bb (.cells #[Value.int .i64 2, .int .i64 fk, .int .i64 (L0.length : Nat), .int .u64 (fad : Nat), .bool fsto] 67) := by rw [set_of hbn]; rfl
        have s2 : (putB y3 bb (.cells #[Value.int .i64 2, .int .i64 fk, .int .i64 (L0.length : Nat), .int .u64 (fad : Nat), .bool fsto] 67)).setCell ⟨bb, 4, none⟩ (.bool sto) = putB y3 bb (.cells #[Value.int .i64 2, .int .i64 fk, .int .i64 (L0.length : Nat), .int .u64 (fad : Nat), .bool sto] 67) := by rw [putB_set_same _ _ _ _ _ jz]; rfl
        have c2 : (putB y3 bb (.cells #[Value.int .i64 2, .int .i64 fk, .int .i64 (L0.length : Nat), .int .u64 (fad : Nat), .bool fsto] 67)).cell? ⟨bb, 4, none⟩ = some (.bool fsto) := putB_cell_same _ _ _ _ jz
        have f2' : (putB y3 bb (.cells #[Value.int .i64 2, .int .i64 fk, .int .i64 (L0.length : Nat), .int .u64 (fad : Nat), .bool fsto] 67)).frozen? ⟨bb, 4, none⟩ = false := putB_frozen_same _ _ _ jz
        have HOp := Lib.hid (And.intro hOp jz)
        clear hOp hbn j1 j2
        go_upto_region 18 with (fail)
        have hOp2 : Only (fun b => b = bb) Y2 (putB y3 bb (.cells #[Value.int .i64 2, .int .i64 fk, .int .i64 (L0.length : Nat), .int .u64 (fad : Nat), .bool sto] 67)) := HOp.out.1.putB _ (fun _ => rfl)
        have hbn := putB_same (.cells #[Value.int .i64 2, .int .i64 fk, .int .i64 (L0.length : Nat), .int .u64 (fad : Nat), .bool sto] 67) HOp.out.2
        clear s1 s2 c2 f2' jb jf jz
        generalize putB y3 bb (.cells #[Value.int .i64 2, .int .i64 fk, .int .i64 (L0.length : Nat), .int .u64 (fad : Nat), .bool sto] 67) = y4 at *
        have hI4 := isW_put HIY.out.1 hOp2 (show ¬ pb = bb by have := HI3.out.2.2.2; omega) (fun b hb e => by have := HI3.out.2.2.2; omega)
        have HI4 := Lib.hid (And.intro (HIY.out.2.1.trans (hOp2.mono fun b _ e => .inl (.inr e))) hbn)
        have hg : Calls Try.prog 20 #[.pointer (some ⟨pb, 0, none⟩), .int .u64 0, .bool false] y4 (fun e y => e = .returned (.tuple #[]) ∧ IsW y (pb + 1) pb 1 table va v L0 (-1) true ∧ Only (fun b => b = pb) y4 y) := give_no hI4 0
        clear hOp2 hbn hI4
        go_wp2_with fail
        (with_reducible refine hg.mono ?_)
        rintro e y5 ⟨rfl, hI5, hO5⟩
        have HY5 := Lib.hid (And.intro hI5 hO5)
        clear hI5 hO5 hg
        go_wp2
        refine Met.intro (hJ2 _ _ (by kernel_rfl) ?_ ?_)
        · refine ⟨L0.length, table, v, L0, al ++ [T], -1, true, ⟨2, fk, (al.length : Int), fad, sto⟩, ?_, rfl, ?_, HY5.out.1, HI4.out.1.trans (HY5.out.2.mono fun b _ e => .inl (.inl e)), ?_, fun h => (by cases h), fun _ => ⟨HE.out.1, HE.out.2.1, fun _ => HE.out.2.2.2.symm⟩⟩
          · rw [HE.out.2.2.1]; show Value.int .i64 ((C : Int) + nq) = _; simp
          · have := HF.out.1.la; have := HF.out.1.l3; simp; omega
          · rw [HF.out.1.la]; exact keep_only HY5.out.2 (show ¬ bb = pb by have := HI3.out.2.2.2; omega) HI4.out.2
        · rw [H17.out]
          exact dwMu0 _ _ _ rfl HF.out.2.1
end Go.Proofs.Ytlbehhbicmmdoaa
