/- The statement WalkNear: its walk. -/
import Derived.Test.YtlbehhbicmmdoaaReadW
import Derived.Test.YtlbehhbicmmdoaaWalkTold
import Derived.Test.YtlbehhbicmmdoaaDescTold
import Derived.Test.YtlbehhbicmmdoaaFrame
import Derived.Deep.CutBlock
namespace Go.Proofs.Ytlbehhbicmmdoaa
set_option linter.unusedVariables false
set_option linter.unusedSimpArgs false
open Go.RowKit

def spanP (lv : Nat) : Nat := 2 ^ (39 - 9 * lv)
set_option maxHeartbeats 16000000 in
set_option maxRecDepth 100000 in
theorem walkNear_walk (st : Int) (_ : (Lit.int .i64 st).wf = true) (ri : Int) (hr0 : (Lit.int .u64 ri).wf = true) (ai : Int) (ha0 : (Lit.int .u64 ai).wf = true) (ad : Option Addr) (ds : List D6) (cap : Nat) (levels : Int) (_ : (Lit.int .i64 levels).wf = true) (li : Int) (hl0 : (Lit.int .u64 li).wf = true) (w : World) (hN : ds.length ≤ maxLen) (hD : Descs w ad ds) :
    Calls Try.prog 7 #[.int .i64 st, .int .u64 ri, .int .u64 ai, .slice ad ds.length cap, .int .i64 levels, .int .u64 li] w (RetB w (.bool true)) := by
  obtain ⟨root, rfl, hroot⟩ := wf_u64 hr0
  obtain ⟨addr, rfl, haddr⟩ := wf_u64 ha0
  obtain ⟨low, rfl, hlow⟩ := wf_u64 hl0
  obtain ⟨S0, hm1, hS0⟩ : ∃ S0 : Int, bits .and .i64 st 1 = S0 ∧ (S0 = 0 ∨ S0 = 1) := ⟨st % 2, i64_mask1 st, by omega⟩
  have hb1 : 0 ≤ S0 := by omega
  have hb2 : S0 ≤ 1 := by omega
  have hst : 1 + S0 = 1 ∨ 1 + S0 = 2 := by omega
  have hc : Calls Try.prog 14 #[.int .i64 (1 + S0), .int .u64 (root : Nat), .int .u64 (addr : Nat), .slice ad ds.length cap, .slice none 0 0, .int .i64 levels] w (RetTables w) := tables_calls (1 + S0) hst root addr ad none ds cap [] 0 levels w hN hD ⟨by simp, by simp, fun _ => rfl, fun k x h => by simp at h⟩
  have HU := Lib.hid (And.intro hroot (And.intro haddr hlow))
  have HST := Lib.hid hst
  clear hr0 ha0 hl0 hS0 hN hD hroot haddr hlow hst
  go_enter Try.func7, Try.ntmps7
  go_wp2_with fail
  (with_reducible refine hc.mono ?_)
  rintro e x1 ⟨v1, v2, A, W, rfl, hA, hW, okA, okW, hO1⟩
  obtain ⟨a1, c1, rfl, hw1, hb1'⟩ := words_own hA okA.2
  obtain ⟨a2, c2, rfl, hw2, hb2'⟩ := words_own hW okW.2
  have HW := Lib.hid (And.intro hw1 (And.intro hb1' (And.intro hw2 (And.intro hb2' (And.intro okW.2 hO1)))))
  clear hc hA hW okA okW hO1 hw1 hb1' hw2 hb2'
  go_upto_region 4 with (fail)
  have hO := old_alloc (old_refl x1) (.cells #[.slice a1 A.length c1, .slice a2 W.length c2] 26)
  have hwb := new_block x1 (.cells #[.slice a1 A.length c1, .slice a2 W.length c2] 26)
  generalize x1.alloc (.cells #[.slice a1 A.length c1, .slice a2 W.length c2] 26) = X1 at *
  generalize hwbe : x1.heap.size = wb at *
  -- what is read, from X1 on
  have hnear : ∀ (y : World), Old X1 y → NearS y.heap.size wb a1 c1 a2 c2 A W 0 y := fun y hy => by
    have h1 := hy.size
    have h2 := lt_of_block hwb
    obtain ⟨w1, b1, w2, b2, _, _⟩ := HW.out
    exact ⟨keep_old hy hwb, ⟨words_old w1 (old_then hO hy), words_old w2 (old_then hO hy), fun bb off e => by have := b1 bb off e; omega, fun bb off e => by have := b2 bb off e; omega⟩⟩
  have hwk : ∀ (y : World) (ad' : Nat), Old X1 y → ad' < 18446744073709551616 → Calls Try.prog 15 #[.int .i64 (1 + S0), .int .u64 (root : Nat), .int .u64 (ad' : Nat), .func (.func 28) #[] #[.pointer (some ⟨wb, 0, none⟩)]] y (RetWalk y (fun _ => False) (NearS y.heap.size wb a1 c1 a2 c2 A W) (walkN (readR A W) (fun _ => true) (1 + S0) ad' 4 0 root)) := fun y ad' hy had =>
    walk_calls (1 + S0) HST.out root ad' HU.out.1 had 28 #[.pointer (some ⟨wb, 0, none⟩)] (fun _ => False) (NearS y.heap.size wb a1 c1 a2 c2 A W) (readR A W) (fun _ => true) y (near_reader y.heap.size wb a1 c1 a2 c2 A W (Nat.lt_of_lt_of_le (lt_of_block hwb) hy.size) HW.out.2.2.2.2.1) (hnear y hy)
  have hc := hwk X1 addr (old_refl _) HU.out.2.1
  have hok := walk_ok (readR A W) (fun _ => true) (1 + S0) addr 4 0 root rfl (by decide)
  have hnr := fun b => walk_near (readR A W) (1 + S0) addr b 4 0 root
  generalize walkN (readR A W) (fun _ => true) (1 + S0) addr 4 0 root = rr at *
  obtain ⟨L, K⟩ := rr
  have HWK := Lib.hid hwk
  have HOK := Lib.hid hok
  have HNR := Lib.hid hnr
  have hOw := old_then HW.out.2.2.2.2.2 hO
  have HOw := Lib.hid hOw
  clear hO hwb hwbe hnear hwk hok hnr hOw
  go_wp2_with fail
  refine hc.mono ?_
  rintro e x2 ⟨v, rfl, hown, -, hO2⟩
  have hown : x2.ownsRow X1.heap.size 52 9 v L.length (stCells L) := hown
  have hO2 : Old X1 x2 := Only.to_below hO2
  obtain ⟨a3, c3, rfl, hl3, hm3, -, q3⟩ := own_value hown
  have HO2 := Lib.hid hO2
  have HOwn := Lib.hid (And.intro hown q3)
  have hl4 := HOK.out.len
  obtain ⟨n, hn⟩ : ∃ n, L.length = n := ⟨_, rfl⟩
  rw [hn]
  have hl4b : n ≤ 4 := by rw [← hn]; exact hl4
  have HN := Lib.hid (And.intro hn hl4b)
  have n4 : (n : Int) ≤ 4 := by omega
  clear hc hO2 hown q3 hn hl4 hl4b hl3 hm3
  by_cases hK : K = 0
  · subst hK
    have hn1 : 1 ≤ n := by
      have := HOK.out.some_ (show (0 : Int) ≠ -1 by decide)
      rw [← HN.out.1]; exact this
    obtain ⟨s, hs⟩ : ∃ s, L[n - 1]? = some s := ⟨_, List.getElem?_eq_getElem (by rw [HN.out.1]; omega)⟩
    obtain ⟨f1, f2, f3, f4⟩ := way_at HOK.out.way hs
    have hleaf := (HOK.out.leaf s (by rw [List.getLast?_eq_getElem?, HN.out.1]; exact hs)).1 rfl
    obtain ⟨g1, rfl⟩ := HOwn.out.2 (by rw [HN.out.1]; omega)
    have hcs : ∀ (c : Nat) (u : Value), s.cells[c]? = some u → x2.cell? ⟨g1, (n - 1) * 9 + c, none⟩ = some u := fun c u hu => own_cell HOwn.out.1 rfl _ (stCells_get L _ s c u hs hu)
    obtain ⟨lv, sat, sraw, ⟨dk, da, dr, dw, dx, dS⟩⟩ := s
    have hcs2 : ∀ (c : Nat) (u : Value), [Value.int .i64 (lv : Nat), .int .u64 (sat : Nat), .int .u64 (sraw : Nat), .int .i64 dk, .int .u64 (da : Nat), .bool dr, .bool dw, .bool dx, .int .i64 dS][c]? = some u → x2.cell? ⟨g1, (n - 1) * 9 + c, none⟩ = some u := hcs
    have f1b : lv = n - 1 := by have h9 : lv = 0 + (n - 1) := f1; omega
    have HF := Lib.hid (And.intro f1b (And.intro hleaf f4))
    have HCS := Lib.hid hcs2
    have hnb : ((n : Int) == 0) = false := by simp; omega
    have hn1' : ((n - 1 : Nat) : Int) = (n : Int) - 1 := by omega
    have hge : (0 : Int) ≤ (n : Int) - 1 := by omega
    have hlt : (n : Int) - 1 < n := by omega
    have htn : ((n : Int) - 1).toNat = n - 1 := by omega
    have HN1 := Lib.hid hn1
    clear hs f1 f1b f2 f3 f4 hleaf hcs hcs2 hn1
    go_upto_region 10 with (refine wpList_load_at rfl 52 _ rfl g1 ((n - 1) * 9) rfl [Value.int .i64 (lv : Nat), .int .u64 (sat : Nat), .int .u64 (sraw : Nat), .int .i64 dk, .int .u64 (da : Nat), .bool dr, .bool dw, .bool dx, .int .i64 dS] _ HCS.out Try.underlying52 rfl (by kernel_rfl) ?_)
    have hO3 := old_alloc (old_refl x2) (.cells #[Value.int .i64 (lv : Nat), .int .u64 (sat : Nat), .int .u64 (sraw : Nat), .int .i64 dk, .int .u64 (da : Nat), .bool dr, .bool dw, .bool dx, .int .i64 dS] 52)
    have hxb := new_block x2 (.cells #[Value.int .i64 (lv : Nat), .int .u64 (sat : Nat), .int .u64 (sraw : Nat), .int .i64 dk, .int .u64 (da : Nat), .bool dr, .bool dw, .bool dx, .int .i64 dS] 52)
    generalize x2.alloc (.cells #[Value.int .i64 (lv : Nat), .int .u64 (sat : Nat), .int .u64 (sraw : Nat), .int .i64 dk, .int .u64 (da : Nat), .bool dr, .bool dw, .bool dx, .int .i64 dS] 52) = X3 at *
    generalize x2.heap.size = xb at *
    have HO3 := Lib.hid (And.intro hO3 hxb)
    obtain ⟨k1, q1, z1⟩ := of_block hxb
    clear hO3 hxb HCS hnb hn1' htn hge hlt
    have hlv3 : lv ≤ 3 := by have := HF.out.1; have := HN.out.2; omega
    have HLV := Lib.hid hlv3
    clear hlv3
    refine wp_cutF [false, false, false, false, false, false, false, false, false, false, false, false, false, false, false, false, false, false, false, true, false, false, false, false, true, true, true, true, true, true, true, true, true, true, true, true, true, true, true, true, true, true, true, true, true, true, true, true, true, true, true, true, true, true, true, true, true, true, true, true, true, true, true, true, true, true, true, true, true, true, true, true, true, true, true] (fun f x => f 19 = .int .u64 ((spanP lv : Nat) : Int) ∧ Old X3 x) ?rest1 ?first1
    case first1 =>
      intro J1 K1 hJ1 hM1
      have h3 := HLV.out
      clear HF HLV HNR HOK HO3 HOwn
      rcases (show lv = 0 ∨ lv = 1 ∨ lv = 2 ∨ lv = 3 by omega) with rfl | rfl | rfl | rfl
      · go_wp2
        exact Met.intro (hJ1 _ _ (by kernel_rfl) ⟨(by kernel_rfl), old_alloc (old_refl _) _⟩)
      · go_wp2
        exact Met.intro (hJ1 _ _ (by kernel_rfl) ⟨(by kernel_rfl), old_alloc (old_refl _) _⟩)
      · go_wp2
        exact Met.intro (hJ1 _ _ (by kernel_rfl) ⟨(by kernel_rfl), old_alloc (old_refl _) _⟩)
      · go_wp2
        exact Met.intro (hJ1 _ _ (by kernel_rfl) ⟨(by kernel_rfl), old_alloc (old_refl _) _⟩)
    case rest1 =>
    intro f1 X4 hcut
    dsimp only [mergeA, mergeL, Nat.reduceAdd]
    obtain ⟨h19, hO4⟩ := hcut
    unfold spanP at h19
    rw [h19]
    obtain ⟨P, hP⟩ : ∃ P, 39 - 9 * lv = P := ⟨_, rfl⟩
    have hP39 : P ≤ 39 := by omega
    have hS1 : (1 : Nat) ≤ 2 ^ P := Nat.pow_pos (by decide)
    have hS2 : 2 ^ P ≤ 2 ^ 39 := Nat.pow_le_pow_right (by decide) hP39
    have hwr : IntKind.u64.wrap (((2 ^ P : Nat) : Int) - 1) = ((2 ^ P - 1 : Nat) : Int) := by
      rw [IntWalk.u64_in _ (by omega)]; omega
    have hbits := near_bits addr low P HU.out.2.1 HU.out.2.2 hP39
    have holt := nearO_lt addr low (2 ^ P) hS1 (by
      rw [show (18446744073709551616 : Nat) = 2 ^ (64 - P) * 2 ^ P by rw [← Nat.pow_add, show 64 - P + P = 64 by omega]]
      exact Nat.mul_mod_left _ _) HU.out.2.1
    have hout := near_out addr low lv HLV.out dk da HF.out.2.1
    have hidx : ∀ k, k < n → indexN (nearO addr low (2 ^ P)) (0 + k) = indexN addr (0 + k) := fun k hk => by
      rw [← hP]
      exact nearO_index addr low lv (0 + k) HLV.out (by have := HF.out.1; omega)
    rw [hP] at hout h19 ⊢
    generalize nearO addr low (2 ^ P) = O at *
    generalize 2 ^ P - 1 = M at *
    generalize 2 ^ P = S at *
    have hr2 := HNR.out O (by rw [HN.out.1]; exact hidx)
    have HO4 := Lib.hid (And.intro hO4 (And.intro hr2 (And.intro holt hout)))
    clear hP hP39 hS1 hS2 hO4 hr2 holt hout hidx h19 k1 q1 z1
    go_upto_region 12 with (fail)
    clear hwr hbits
    have hc := HWK.out X4 O (old_then HO2.out (old_then HO3.out.1 HO4.out.1)) HO4.out.2.2.1
    rw [HO4.out.2.1] at hc
    go_wp2_with fail
    refine hc.mono ?_
    rintro e x5 ⟨v5, rfl, hown5, -, hO5⟩
    have hown5 : x5.ownsRow X4.heap.size 52 9 v5 L.length (stCells L) := hown5
    have hO5 : Old X4 x5 := Only.to_below hO5
    obtain ⟨a5, c5, rfl, -, -, -, q5⟩ := own_value hown5
    rw [HN.out.1]
    have HX5 := Lib.hid (And.intro hO5 (And.intro hown5 q5))
    clear hc hown5 hO5 q5
    go_wp2
    refine wp_loopF [false, false, false, false, false, false, false, false, false, false, false, false, true, false, false, false, false, false, false, false, false, false, false, true, false, false, false, false, false, false, false, false, false, false, false, false, false, false, false, false, false, false, false, false, false, false, false, false, false, false, false, false, false, false, false, false, false, false, false, false, false, false, false, false, false, false, false, false, false, false, false, false, false, false, false, false, false, false, false, false, false, false, false, false, false, false, false, false, false, false, false, false, false, false, false, false, false, false, false, false, false, false, true, true, true, true, true, true, true, true, true, true, true, true, true, true, true, true, true, true, true, true, true, true, true, true, true, true, true, true, true, true] (fun f x => ∃ i : Nat, i ≤ n ∧ f 23 = .int .i64 (i : Nat) ∧ Old x5 x) (fun f => n - (intOf (f 23)).toNat) ?start2 ?round2
    case start2 => exact ⟨0, by omega, rfl, (by first | exact old_refl _ | exact old_drew (old_refl _))⟩
    case round2 =>
      intro f2 wq hrel J2 K2 hJ2 hM2
      dsimp only [mergeA, mergeL, Nat.reduceAdd]
      obtain ⟨i, hi, h23, hO7⟩ := hrel
      rw [h23]
      have H23 := Lib.hid h23
      have HO7 := Lib.hid hO7
      clear h23 hO7
      by_cases hin : i = n
      · have e1 : ¬ (i : Int) < n := by omega
        clear hin hi
        have hxb := keep_old (old_then HO4.out.1 (old_then HX5.out.1 HO7.out)) HO3.out.2
        have HXB := Lib.hid hxb
        have hc1 := fun y => out_calls O HO4.out.2.2.1 (lv : Nat) (sat : Nat) (sraw : Nat) dk da HF.out.2.2 dr dw dx dS y
        have hc2 := fun y => out_calls addr HU.out.2.1 (lv : Nat) (sat : Nat) (sraw : Nat) dk da HF.out.2.2 dr dw dx dS y
        have hc3 := fun y => refOut_calls addr HU.out.2.1 (lv : Nat) 0 0 dk da HF.out.2.2 dr dw dx dS y
        have hout := HO4.out.2.2.2
        generalize outN O (lv : Nat) dk da = o1 at *
        generalize outN addr (lv : Nat) dk da = o2 at *
        obtain ⟨D, hD1⟩ : ∃ D, IntKind.u64.wrap ((O : Int) - (addr : Int)) = D := ⟨_, rfl⟩
        rw [hD1] at hout
        have HC1 := Lib.hid hc1
        have HC2 := Lib.hid hc2
        have HC3 := Lib.hid hc3
        clear hxb hc1 hc2 hc3
        go_upto_region 20 with (fail)
        clear e1
        refine wp_region_walked (S := Old wq) (by kernel_rfl) (by kernel_rfl) (old_drew (old_refl _)) ?_
        apply walked_cons
        · intro wS hS
          have kx := keep_old hS HXB.out
          obtain ⟨k1, q1, z1⟩ := of_block kx
          have hc1 := HC1.out
          have hc2 := HC2.out
          have hc3 := HC3.out
          have hc := told12_calls wS
          clear kx hc1 hc2 hc3
          have HS := Lib.hid hS
          clear hS
          go_wp2_with fail
          (with_reducible refine hc.mono ?_)
          rintro e y9 ⟨rfl, hY⟩
          have HY := Lib.hid hY
          clear hc hY k1 q1 z1
          go_wp2
          exact ⟨rfl, rfl, old_then HS.out HY.out⟩
        · rfl
        (try simp only [Act.put, List.setIfInBounds_toArray, List.set_cons_succ, List.set_cons_zero])
        apply walked_cons
        · intro wS hS
          have kx := keep_old hS HXB.out
          obtain ⟨k1, q1, z1⟩ := of_block kx
          have HS := Lib.hid hS
          clear hS kx
          go_wp2
          exact ⟨rfl, rfl, HS.out⟩
        · rfl
        (try simp only [Act.put, List.setIfInBounds_toArray, List.set_cons_succ, List.set_cons_zero])
        apply walked_cons
        · intro wS hS
          have kx := keep_old hS HXB.out
          obtain ⟨k1, q1, z1⟩ := of_block kx
          have HS := Lib.hid hS
          clear hS kx
          go_wp2
          exact ⟨rfl, rfl, HS.out⟩
        · rfl
        (try simp only [Act.put, List.setIfInBounds_toArray, List.set_cons_succ, List.set_cons_zero])
        apply walked_cons
        · intro wS hS
          have kx := keep_old hS HXB.out
          obtain ⟨k1, q1, z1⟩ := of_block kx
          have HS := Lib.hid hS
          clear hS kx
          go_wp2
          exact ⟨rfl, rfl, HS.out⟩
        · rfl
        (try simp only [Act.put, List.setIfInBounds_toArray, List.set_cons_succ, List.set_cons_zero])
        apply walked_cons
        · intro wS hS
          have kx := keep_old hS HXB.out
          obtain ⟨k1, q1, z1⟩ := of_block kx
          have hc1 := HC1.out
          have hc2 := HC2.out
          have hc3 := HC3.out
          have hc := hc1 wS
          clear kx hc1 hc2 hc3
          have HS := Lib.hid hS
          clear hS
          go_wp2_with fail
          (with_reducible refine hc.mono ?_)
          rintro e y9 ⟨rfl, hY⟩
          have HY := Lib.hid hY
          clear hc hY k1 q1 z1
          go_wp2
          exact ⟨rfl, rfl, old_then HS.out HY.out⟩
        · rfl
        (try simp only [Act.put, List.setIfInBounds_toArray, List.set_cons_succ, List.set_cons_zero])
        apply walked_cons
        · intro wS hS
          have kx := keep_old hS HXB.out
          obtain ⟨k1, q1, z1⟩ := of_block kx
          have HS := Lib.hid hS
          clear hS kx
          go_wp2
          exact ⟨rfl, rfl, HS.out⟩
        · rfl
        (try simp only [Act.put, List.setIfInBounds_toArray, List.set_cons_succ, List.set_cons_zero])
        apply walked_cons
        · intro wS hS
          have kx := keep_old hS HXB.out
          obtain ⟨k1, q1, z1⟩ := of_block kx
          have HS := Lib.hid hS
          clear hS kx
          go_wp2
          exact ⟨rfl, rfl, HS.out⟩
        · rfl
        (try simp only [Act.put, List.setIfInBounds_toArray, List.set_cons_succ, List.set_cons_zero])
        apply walked_cons
        · intro wS hS
          have kx := keep_old hS HXB.out
          obtain ⟨k1, q1, z1⟩ := of_block kx
          have hc1 := HC1.out
          have hc2 := HC2.out
          have hc3 := HC3.out
          have hc := hc2 wS
          clear kx hc1 hc2 hc3
          have HS := Lib.hid hS
          clear hS
          go_wp2_with fail
          (with_reducible refine hc.mono ?_)
          rintro e y9 ⟨rfl, hY⟩
          have HY := Lib.hid hY
          clear hc hY k1 q1 z1
          go_wp2
          exact ⟨rfl, rfl, old_then HS.out HY.out⟩
        · rfl
        (try simp only [Act.put, List.setIfInBounds_toArray, List.set_cons_succ, List.set_cons_zero])
        apply walked_cons
        · intro wS hS
          have kx := keep_old hS HXB.out
          obtain ⟨k1, q1, z1⟩ := of_block kx
          have HS := Lib.hid hS
          clear hS kx
          go_wp2
          exact ⟨rfl, rfl, HS.out⟩
        · rfl
        (try simp only [Act.put, List.setIfInBounds_toArray, List.set_cons_succ, List.set_cons_zero])
        apply walked_cons
        · intro wS hS
          have kx := keep_old hS HXB.out
          obtain ⟨k1, q1, z1⟩ := of_block kx
          have HS := Lib.hid hS
          clear hS kx
          go_wp2
          exact ⟨rfl, rfl, HS.out⟩
        · rfl
        (try simp only [Act.put, List.setIfInBounds_toArray, List.set_cons_succ, List.set_cons_zero])
        apply walked_cons
        · intro wS hS
          have kx := keep_old hS HXB.out
          obtain ⟨k1, q1, z1⟩ := of_block kx
          have HS := Lib.hid hS
          clear hS kx
          go_wp2
          exact ⟨rfl, rfl, HS.out⟩
        · rfl
        (try simp only [Act.put, List.setIfInBounds_toArray, List.set_cons_succ, List.set_cons_zero])
        apply walked_cons
        · intro wS hS
          have kx := keep_old hS HXB.out
          obtain ⟨k1, q1, z1⟩ := of_block kx
          have HS := Lib.hid hS
          clear hS kx
          go_wp2
          exact ⟨rfl, rfl, HS.out⟩
        · rfl
        (try simp only [Act.put, List.setIfInBounds_toArray, List.set_cons_succ, List.set_cons_zero])
        apply walked_cons
        · intro wS hS
          have kx := keep_old hS HXB.out
          obtain ⟨k1, q1, z1⟩ := of_block kx
          have HS := Lib.hid hS
          clear hS kx
          go_wp2
          exact ⟨rfl, rfl, HS.out⟩
        · rfl
        (try simp only [Act.put, List.setIfInBounds_toArray, List.set_cons_succ, List.set_cons_zero])
        apply walked_cons
        · intro wS hS
          have kx := keep_old hS HXB.out
          obtain ⟨k1, q1, z1⟩ := of_block kx
          have HS := Lib.hid hS
          clear hS kx
          go_wp2
          exact ⟨rfl, rfl, HS.out⟩
        · rfl
        (try simp only [Act.put, List.setIfInBounds_toArray, List.set_cons_succ, List.set_cons_zero])
        apply walked_cons
        · intro wS hS
          have kx := keep_old hS HXB.out
          obtain ⟨k1, q1, z1⟩ := of_block kx
          have HS := Lib.hid hS
          clear hS kx
          go_wp2
          exact ⟨rfl, rfl, HS.out⟩
        · rfl
        (try simp only [Act.put, List.setIfInBounds_toArray, List.set_cons_succ, List.set_cons_zero])
        apply walked_cons
        · intro wS hS
          have kx := keep_old hS HXB.out
          obtain ⟨k1, q1, z1⟩ := of_block kx
          have HS := Lib.hid hS
          clear hS kx
          go_wp2
          exact ⟨rfl, rfl, HS.out⟩
        · rfl
        (try simp only [Act.put, List.setIfInBounds_toArray, List.set_cons_succ, List.set_cons_zero])
        apply walked_cons
        · intro wS hS
          have kx := keep_old hS HXB.out
          obtain ⟨k1, q1, z1⟩ := of_block kx
          have HS := Lib.hid hS
          clear hS kx
          go_wp2
          exact ⟨rfl, rfl, HS.out⟩
        · rfl
        (try simp only [Act.put, List.setIfInBounds_toArray, List.set_cons_succ, List.set_cons_zero])
        apply walked_cons
        · intro wS hS
          have kx := keep_old hS HXB.out
          obtain ⟨k1, q1, z1⟩ := of_block kx
          have HS := Lib.hid hS
          clear hS kx
          go_wp2
          exact ⟨rfl, rfl, HS.out⟩
        · rfl
        (try simp only [Act.put, List.setIfInBounds_toArray, List.set_cons_succ, List.set_cons_zero])
        apply walked_cons
        · intro wS hS
          have kx := keep_old hS HXB.out
          obtain ⟨k1, q1, z1⟩ := of_block kx
          have HS := Lib.hid hS
          clear hS kx
          go_wp2
          exact ⟨rfl, rfl, HS.out⟩
        · rfl
        (try simp only [Act.put, List.setIfInBounds_toArray, List.set_cons_succ, List.set_cons_zero])
        apply walked_cons
        · intro wS hS
          have kx := keep_old hS HXB.out
          obtain ⟨k1, q1, z1⟩ := of_block kx
          have HS := Lib.hid hS
          clear hS kx
          go_wp2
          exact ⟨rfl, rfl, HS.out⟩
        · rfl
        (try simp only [Act.put, List.setIfInBounds_toArray, List.set_cons_succ, List.set_cons_zero])
        apply walked_cons
        · intro wS hS
          have kx := keep_old hS HXB.out
          obtain ⟨k1, q1, z1⟩ := of_block kx
          have HS := Lib.hid hS
          clear hS kx
          go_wp2
          exact ⟨rfl, rfl, HS.out⟩
        · rfl
        (try simp only [Act.put, List.setIfInBounds_toArray, List.set_cons_succ, List.set_cons_zero])
        apply walked_cons
        · intro wS hS
          have kx := keep_old hS HXB.out
          obtain ⟨k1, q1, z1⟩ := of_block kx
          have hc1 := HC1.out
          have hc2 := HC2.out
          have hc3 := HC3.out
          have hc := hc3 wS
          clear kx hc1 hc2 hc3
          have HS := Lib.hid hS
          clear hS
          go_wp2_with fail
          (with_reducible refine hc.mono ?_)
          rintro e y9 ⟨rfl, hY⟩
          have HY := Lib.hid hY
          clear hc hY k1 q1 z1
          go_wp2
          exact ⟨rfl, rfl, old_then HS.out HY.out⟩
        · rfl
        (try simp only [Act.put, List.setIfInBounds_toArray, List.set_cons_succ, List.set_cons_zero])
        apply walked_cons
        · intro wS hS
          have kx := keep_old hS HXB.out
          obtain ⟨k1, q1, z1⟩ := of_block kx
          have HS := Lib.hid hS
          clear hS kx
          go_wp2
          exact ⟨rfl, rfl, HS.out⟩
        · rfl
        (try simp only [Act.put, List.setIfInBounds_toArray, List.set_cons_succ, List.set_cons_zero])
        apply walked_cons
        · intro wS hS
          have kx := keep_old hS HXB.out
          obtain ⟨k1, q1, z1⟩ := of_block kx
          have HS := Lib.hid hS
          clear hS kx
          go_wp2
          exact ⟨rfl, rfl, HS.out⟩
        · rfl
        (try simp only [Act.put, List.setIfInBounds_toArray, List.set_cons_succ, List.set_cons_zero])
        apply walked_cons
        · intro wS hS
          have kx := keep_old hS HXB.out
          obtain ⟨k1, q1, z1⟩ := of_block kx
          have hc1 := HC1.out
          have hc2 := HC2.out
          have hc3 := HC3.out
          have hc := hc2 wS
          clear kx hc1 hc2 hc3
          have HS := Lib.hid hS
          clear hS
          go_wp2_with fail
          (with_reducible refine hc.mono ?_)
          rintro e y9 ⟨rfl, hY⟩
          have HY := Lib.hid hY
          clear hc hY k1 q1 z1
          go_wp2
          exact ⟨rfl, rfl, old_then HS.out HY.out⟩
        · rfl
        (try simp only [Act.put, List.setIfInBounds_toArray, List.set_cons_succ, List.set_cons_zero])
        apply walked_cons
        · intro wS hS
          have kx := keep_old hS HXB.out
          obtain ⟨k1, q1, z1⟩ := of_block kx
          have HS := Lib.hid hS
          clear hS kx
          go_wp2
          exact ⟨rfl, rfl, HS.out⟩
        · rfl
        (try simp only [Act.put, List.setIfInBounds_toArray, List.set_cons_succ, List.set_cons_zero])
        apply walked_cons
        · intro wS hS
          have kx := keep_old hS HXB.out
          obtain ⟨k1, q1, z1⟩ := of_block kx
          have HS := Lib.hid hS
          clear hS kx
          go_wp2
          exact ⟨rfl, rfl, HS.out⟩
        · rfl
        (try simp only [Act.put, List.setIfInBounds_toArray, List.set_cons_succ, List.set_cons_zero])
        apply walked_cons
        · intro wS hS
          have kx := keep_old hS HXB.out
          obtain ⟨k1, q1, z1⟩ := of_block kx
          have HS := Lib.hid hS
          clear hS kx
          go_wp2
          exact ⟨rfl, rfl, HS.out⟩
        · rfl
        (try simp only [Act.put, List.setIfInBounds_toArray, List.set_cons_succ, List.set_cons_zero])
        apply walked_nil
        intro wS hS
        have HS := Lib.hid hS
        clear hS hout hD1
        go_wp2
        go_ret
        exact ⟨rfl, old_then HOw.out (old_then HO2.out (old_then HO3.out.1 (old_then HO4.out.1 (old_then HX5.out.1 (old_then HO7.out HS.out)))))⟩
      · have e1 : (i : Int) < n := by omega
        have hlt : i < n := by omega
        obtain ⟨t, ht⟩ : ∃ t, L[i]? = some t := ⟨_, List.getElem?_eq_getElem (by rw [HN.out.1]; exact hlt)⟩
        obtain ⟨g5, rfl⟩ := HX5.out.2.2 (by rw [HN.out.1]; omega)
        have hra : ∀ (c : Nat) (u : Value), t.cells[c]? = some u → wq.cell? ⟨g1, i * 9 + c, none⟩ = some u := fun c u hu => own_cell (own_old HOwn.out.1 (old_then HO3.out.1 (old_then HO4.out.1 (old_then HX5.out.1 HO7.out)))) rfl _ (stCells_get L _ t c u ht hu)
        have hrb : ∀ (c : Nat) (u : Value), t.cells[c]? = some u → wq.cell? ⟨g5, i * 9 + c, none⟩ = some u := fun c u hu => own_cell (own_old HX5.out.2.1 HO7.out) rfl _ (stCells_get L _ t c u ht hu)
        obtain ⟨tlv, tat, traw, ⟨tk, ta, tr, tw, tx, tS⟩⟩ := t
        have ra1 : wq.cell? ⟨g1, i * 9 + 1, none⟩ = some (.int .u64 (tat : Nat)) := hra 1 _ rfl
        have ra3 : wq.cell? ⟨g1, i * 9 + 3, none⟩ = some (.int .i64 tk) := hra 3 _ rfl
        have ra4 : wq.cell? ⟨g1, i * 9 + 4, none⟩ = some (.int .u64 (ta : Nat)) := hra 4 _ rfl
        have ra5 : wq.cell? ⟨g1, i * 9 + 5, none⟩ = some (.bool tr) := hra 5 _ rfl
        have ra6 : wq.cell? ⟨g1, i * 9 + 6, none⟩ = some (.bool tw) := hra 6 _ rfl
        have ra7 : wq.cell? ⟨g1, i * 9 + 7, none⟩ = some (.bool tx) := hra 7 _ rfl
        have ra8 : wq.cell? ⟨g1, i * 9 + 8, none⟩ = some (.int .i64 tS) := hra 8 _ rfl
        have rb1 : wq.cell? ⟨g5, i * 9 + 1, none⟩ = some (.int .u64 (tat : Nat)) := hrb 1 _ rfl
        have rb3 : wq.cell? ⟨g5, i * 9 + 3, none⟩ = some (.int .i64 tk) := hrb 3 _ rfl
        have rb4 : wq.cell? ⟨g5, i * 9 + 4, none⟩ = some (.int .u64 (ta : Nat)) := hrb 4 _ rfl
        have rb5 : wq.cell? ⟨g5, i * 9 + 5, none⟩ = some (.bool tr) := hrb 5 _ rfl
        have rb6 : wq.cell? ⟨g5, i * 9 + 6, none⟩ = some (.bool tw) := hrb 6 _ rfl
        have rb7 : wq.cell? ⟨g5, i * 9 + 7, none⟩ = some (.bool tx) := hrb 7 _ rfl
        have rb8 : wq.cell? ⟨g5, i * 9 + 8, none⟩ = some (.int .i64 tS) := hrb 8 _ rfl
        have heq : (Op.equalIn 10000 48 (.agg #[Value.int .i64 tk, .int .u64 (ta : Nat), .bool tr, .bool tw, .bool tx, .int .i64 tS]) (.agg #[Value.int .i64 tk, .int .u64 (ta : Nat), .bool tr, .bool tw, .bool tx, .int .i64 tS])).run Try.prog wq.drew = .ok true wq.drew := (eq_desc tk ta tS tk ta tS tr tw tx tr tw tx wq.drew).trans (by simp)
        have HI := Lib.hid hlt
        clear hin hi hlt ht hra hrb
        go_upto_region 18 with (fail)
        refine wp_region_walked (S := Is wq.drew) (by kernel_rfl) (by kernel_rfl) rfl ?_
        apply walked_cons
        · intro wS hS; cases hS; go_wp2; exact ⟨rfl, rfl, rfl⟩
        · rfl
        (try simp only [Act.put, List.setIfInBounds_toArray, List.set_cons_succ, List.set_cons_zero])
        apply walked_cons
        · intro wS hS; cases hS; go_wp2; exact ⟨rfl, rfl, rfl⟩
        · rfl
        (try simp only [Act.put, List.setIfInBounds_toArray, List.set_cons_succ, List.set_cons_zero])
        apply walked_cons
        · intro wS hS; cases hS; go_wp2; exact ⟨rfl, rfl, rfl⟩
        · rfl
        (try simp only [Act.put, List.setIfInBounds_toArray, List.set_cons_succ, List.set_cons_zero])
        apply walked_cons
        · intro wS hS; cases hS; go_wp2; exact ⟨rfl, rfl, rfl⟩
        · rfl
        (try simp only [Act.put, List.setIfInBounds_toArray, List.set_cons_succ, List.set_cons_zero])
        apply walked_cons
        · intro wS hS; cases hS; go_wp2; exact ⟨rfl, rfl, rfl⟩
        · rfl
        (try simp only [Act.put, List.setIfInBounds_toArray, List.set_cons_succ, List.set_cons_zero])
        apply walked_cons
        · intro wS hS; cases hS; go_wp2; exact ⟨rfl, rfl, rfl⟩
        · rfl
        (try simp only [Act.put, List.setIfInBounds_toArray, List.set_cons_succ, List.set_cons_zero])
        apply walked_cons
        · intro wS hS; cases hS; go_wp2; exact ⟨rfl, rfl, rfl⟩
        · rfl
        (try simp only [Act.put, List.setIfInBounds_toArray, List.set_cons_succ, List.set_cons_zero])
        apply walked_cons
        · intro wS hS; cases hS; go_wp2; exact ⟨rfl, rfl, rfl⟩
        · rfl
        (try simp only [Act.put, List.setIfInBounds_toArray, List.set_cons_succ, List.set_cons_zero])
        apply walked_cons
        · intro wS hS; cases hS; go_wp2; exact ⟨rfl, rfl, rfl⟩
        · rfl
        (try simp only [Act.put, List.setIfInBounds_toArray, List.set_cons_succ, List.set_cons_zero])
        apply walked_cons
        · intro wS hS; cases hS; go_wp2; exact ⟨rfl, rfl, rfl⟩
        · rfl
        (try simp only [Act.put, List.setIfInBounds_toArray, List.set_cons_succ, List.set_cons_zero])
        apply walked_cons
        · intro wS hS; cases hS; go_wp2; exact ⟨rfl, rfl, rfl⟩
        · rfl
        (try simp only [Act.put, List.setIfInBounds_toArray, List.set_cons_succ, List.set_cons_zero])
        apply walked_cons
        · intro wS hS; cases hS; go_wp2; exact ⟨rfl, rfl, rfl⟩
        · rfl
        (try simp only [Act.put, List.setIfInBounds_toArray, List.set_cons_succ, List.set_cons_zero])
        apply walked_cons
        · intro wS hS; cases hS; go_wp2; exact ⟨rfl, rfl, rfl⟩
        · rfl
        (try simp only [Act.put, List.setIfInBounds_toArray, List.set_cons_succ, List.set_cons_zero])
        apply walked_cons
        · intro wS hS; cases hS; go_wp2; exact ⟨rfl, rfl, rfl⟩
        · rfl
        (try simp only [Act.put, List.setIfInBounds_toArray, List.set_cons_succ, List.set_cons_zero])
        apply walked_cons
        · intro wS hS; cases hS; go_wp2; exact ⟨rfl, rfl, rfl⟩
        · rfl
        (try simp only [Act.put, List.setIfInBounds_toArray, List.set_cons_succ, List.set_cons_zero])
        apply walked_cons
        · intro wS hS; cases hS; go_wp2; exact ⟨rfl, rfl, rfl⟩
        · rfl
        (try simp only [Act.put, List.setIfInBounds_toArray, List.set_cons_succ, List.set_cons_zero])
        apply walked_cons
        · intro wS hS; cases hS; go_wp2; exact ⟨rfl, rfl, rfl⟩
        · rfl
        (try simp only [Act.put, List.setIfInBounds_toArray, List.set_cons_succ, List.set_cons_zero])
        apply walked_cons
        · intro wS hS; cases hS; go_wp2; exact ⟨rfl, rfl, rfl⟩
        · rfl
        (try simp only [Act.put, List.setIfInBounds_toArray, List.set_cons_succ, List.set_cons_zero])
        apply walked_cons
        · intro wS hS; cases hS; go_wp2; exact ⟨rfl, rfl, rfl⟩
        · rfl
        (try simp only [Act.put, List.setIfInBounds_toArray, List.set_cons_succ, List.set_cons_zero])
        apply walked_cons
        · intro wS hS; cases hS; go_wp2; exact ⟨rfl, rfl, rfl⟩
        · rfl
        (try simp only [Act.put, List.setIfInBounds_toArray, List.set_cons_succ, List.set_cons_zero])
        apply walked_cons
        · intro wS hS; cases hS; go_wp2; exact ⟨rfl, rfl, rfl⟩
        · rfl
        (try simp only [Act.put, List.setIfInBounds_toArray, List.set_cons_succ, List.set_cons_zero])
        apply walked_cons
        · intro wS hS; cases hS; go_wp2; exact ⟨rfl, rfl, rfl⟩
        · rfl
        (try simp only [Act.put, List.setIfInBounds_toArray, List.set_cons_succ, List.set_cons_zero])
        apply walked_cons
        · intro wS hS; cases hS; go_wp2; exact ⟨rfl, rfl, rfl⟩
        · rfl
        (try simp only [Act.put, List.setIfInBounds_toArray, List.set_cons_succ, List.set_cons_zero])
        apply walked_cons
        · intro wS hS; cases hS; go_wp2; exact ⟨rfl, rfl, rfl⟩
        · rfl
        (try simp only [Act.put, List.setIfInBounds_toArray, List.set_cons_succ, List.set_cons_zero])
        apply walked_nil
        intro wS hS
        cases hS
        clear heq ra1 ra3 ra4 ra5 ra6 ra7 ra8 rb1 rb3 rb4 rb5 rb6 rb7 rb8
        go_wp2
        refine Met.intro (hJ2 _ _ (by kernel_rfl) ?_ ?_)
        · exact ⟨i + 1, HI.out, by show Value.int .i64 ((i : Int) + 1) = _; simp, old_then HO7.out (old_drew (old_refl _))⟩
        · rw [H23.out]
          show n - (intOf (Value.int .i64 ((i : Int) + 1))).toNat < n - (intOf (Value.int .i64 (i : Int))).toNat
          have := HI.out
          simp [intOf]
          omega
  · skip
    have hKb : (K == 0) = false := by simp [hK]
    by_cases hn0 : n = 0
    · subst hn0
      have hc := told12_calls x2
      go_wp2_with fail
      (with_reducible refine hc.mono ?_)
      rintro e y ⟨rfl, hY⟩
      have HY := Lib.hid hY
      clear hc hY
      go_wp2
      go_ret
      exact ⟨rfl, old_then HOw.out (old_then HO2.out HY.out)⟩
    · obtain ⟨s, hs⟩ : ∃ s, L[n - 1]? = some s := ⟨_, List.getElem?_eq_getElem (by rw [HN.out.1]; omega)⟩
      have hleaf := HOK.out.leaf s (by rw [List.getLast?_eq_getElem?, HN.out.1]; exact hs)
      have hk3 : ¬ s.d.k = 3 := fun e => hK (hleaf.2 (.inr e))
      have HK3 := Lib.hid hk3
      obtain ⟨g1, rfl⟩ := HOwn.out.2 (by rw [HN.out.1]; omega)
      have hcs : ∀ (y : World), Old x2 y → y.cell? ⟨g1, (n - 1) * 9 + 3, none⟩ = some (.int .i64 s.d.k) := fun y hy => own_cell (own_old HOwn.out.1 hy) rfl _ (stCells_get L _ s 3 _ hs rfl)
      have hnb : ((n : Int) == 0) = false := by simp; omega
      have hn1' : ((n - 1 : Nat) : Int) = (n : Int) - 1 := by omega
      have hge : (0 : Int) ≤ (n : Int) - 1 := by omega
      have hlt : (n : Int) - 1 < n := by omega
      have htn : ((n : Int) - 1).toNat = n - 1 := by omega
      have HCS := Lib.hid hcs
      have hc := told12_calls x2
      clear hn0 hs hleaf hk3 hcs hK
      go_wp2_with fail
      (with_reducible refine hc.mono ?_)
      rintro e y ⟨rfl, hY⟩
      have HY := Lib.hid hY
      have hcy := HCS.out y hY
      clear hc hY
      go_wp2
      go_ret
      exact ⟨by show Ending.returned (.bool (s.d.k != 3)) = _; rw [show (s.d.k != 3) = true from by simp [HK3.out]], old_then HOw.out (old_then HO2.out HY.out)⟩
end Go.Proofs.Ytlbehhbicmmdoaa

