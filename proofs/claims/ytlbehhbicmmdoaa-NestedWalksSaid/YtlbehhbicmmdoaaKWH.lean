/- Texts on the way to the statement NestedWalks, several in one file: each part says what it is. -/
import Derived.Test.YtlbehhbicmmdoaaKWE
import Derived.Test.YtlbehhbicmmdoaaKWG
namespace Go.Proofs.Ytlbehhbicmmdoaa
set_option linter.unusedVariables false
set_option linter.unusedSimpArgs false
open Go.RowKit
def isF : Value → Bool
  | .bool b => !b
  | _ => false
/-- What the document's Second tells. -/
def RetDoc (w : World) (q : O8 × F5 × Nat) (e : Ending) (y : World) : Prop := e = .returned (.tuple #[.agg q.1.cells, .agg q.2.1.cells, .int .i64 (q.2.2 : Nat)]) ∧ Old w y
theorem docMu (a b : Int) (ha : 0 ≤ a) (h : a < b) (hb : b ≤ 4) (u v : Bool) : 2 * (5 - (intOf (Value.int .i64 b)).toNat) + (bif u then 0 else 1) < 2 * (5 - (intOf (Value.int .i64 a)).toNat) + (bif v then 0 else 1) := by
  have h1 : (intOf (Value.int .i64 b)).toNat = b.toNat := rfl
  have h2 : (intOf (Value.int .i64 a)).toNat = a.toNat := rfl
  rw [h1, h2]
  cases u <;> cases v <;> simp only [cond_true, cond_false] <;> omega
theorem refStep_kinds {raw : Nat → Nat} {ok : Nat → Bool} {st : Int} {addr m table : Nat} {L0 : List St} {R : List St × Int} (hway : OnWay raw ok st addr (4 - m) m table L0 R) (hm : m = L0.length) (hm3 : m ≤ 3) (hok : ok (atN table addr L0.length) = false) : R = (L0, -1) := by
  subst hm
  exact onWay_no (n := 3 - L0.length) (lv := L0.length) (by rwa [show 3 - L0.length + 1 = 4 - L0.length by omega]) hok
theorem doc_yes {raw : Nat → Nat} {ok : Nat → Bool} {st : Int} {addr m table X : Nat} {L0 : List St} {R : List St × Int} (hway : OnWay raw ok st addr (4 - m) m table L0 R) (hm : m = L0.length) (hm3 : m ≤ 3) (T : Nat) (hT : atN table addr L0.length = T) (hX : raw T = X) (hok : ok T = true) :
    (giveO (decE st L0.length X) (decD st L0.length X) = false → giveK (decE st L0.length X) (decD st L0.length X) 4 = 4 ∧ m + 1 = (L0 ++ ([⟨L0.length, T, X, decD st L0.length X⟩] : List St)).length ∧ m + 1 ≤ 3 ∧ OnWay raw ok st addr (4 - (m + 1)) (m + 1) (giveT (decE st L0.length X) (decD st L0.length X) table) (L0 ++ [⟨L0.length, T, X, decD st L0.length X⟩]) R) ∧
    (giveO (decE st L0.length X) (decD st L0.length X) = true → R = (L0 ++ [⟨L0.length, T, X, decD st L0.length X⟩], giveK (decE st L0.length X) (decD st L0.length X) 4) ∧ m + 1 = R.1.length) := by
  subst hm hT hX
  have h := onWay_yes (n := 3 - L0.length) (lv := L0.length) (by rwa [show 3 - L0.length + 1 = 4 - L0.length by omega]) hok
  rcases h with ⟨a, b⟩ | ⟨a, b, c, d⟩
  · refine ⟨fun e => (by rw [a] at e; cases e), fun _ => ⟨b, ?_⟩⟩
    rw [b]; simp
  · refine ⟨fun _ => ⟨c, by simp, ?_, by rwa [show 4 - (L0.length + 1) = 3 - L0.length by omega]⟩, fun e => (by rw [a] at e; cases e)⟩
    rcases Nat.lt_or_ge L0.length 3 with h3 | h3
    · omega
    · have e : L0.length = 3 := by omega
      rw [e] at d
      exact absurd d (decD_last st _)
set_option maxHeartbeats 16000000 in
set_option maxRecDepth 100000 in
theorem docSecond_far {w : World} {dm : Nat} {pgs : Nat → List Nat} {wd : Nat → Nat} (hD : DocM w dm 40 pgs) (hw : ∀ a, okM 40 a = true → getN (pgs (a / 4096)) (a % 4096) 8 = wd a) (hraw : ∀ a, rawM 40 wd a < 18446744073709551616) (two ipa : Nat) (htwo : two < 18446744073709551616) (hipa : ipa < 18446744073709551616) (access : Int) (hi : 1099511627776 ≤ ipa) :
    Calls Try.prog 34 #[.pointer (some ⟨dm, 0, none⟩), .int .u64 (two : Nat), .int .u64 (ipa : Nat), .int .i64 access] w (RetDoc w (secondN (rawM 40 wd) (okM 40) two ipa access)) := by
  obtain ⟨sto, hsto⟩ : ∃ sto, (access == 2) = sto := ⟨_, rfl⟩
  have hsd : decide (access = 2) = sto := by rw [← hsto]; rfl
  have HSD := Lib.hid hsd
  obtain ⟨q, hq⟩ : ∃ q, secondN (rawM 40 wd) (okM 40) two ipa access = q := ⟨_, rfl⟩
  rw [hq]
  have HQ := Lib.hid hq
  have hwc : ∀ y, Old w y → ∀ a, a < 18446744073709551616 → Calls Try.prog 61 #[.pointer (some ⟨dm, 0, none⟩), .int .u64 (a : Nat)] y (RetB y (.tuple #[.int .u64 (rawM 40 wd a : Nat), .bool (okM 40 a)])) := fun y hy a ha => word_calls (docM_old hD hy) hw a ha
  have HU := Lib.hid (And.intro htwo (And.intro hipa (And.intro hwc hraw)))
  clear hD hw hraw hsd hq hwc htwo hipa
  go_enter Try.func34, Try.ntmps34
  go_upto_region 2 with (fail)
  have hH := holds_new #[Value.int .i64 2, .int .i64 0, .int .i64 (-1), .int .u64 (ipa : Nat), .bool sto] 67 (holds_new #[Value.int .i64 0, .int .i64 0, .int .i64 0, .int .u64 0, .bool false] 67 (holds_new #[Value.int .i64 0, .int .u64 0, .bool false, .bool false, .bool false, .bool false, .bool false, .bool false] 77 (holds_nil w)))
  simp only [World.size_alloc] at hH
  have hsz : (((w.alloc (.cells #[Value.int .i64 0, .int .u64 0, .bool false, .bool false, .bool false, .bool false, .bool false, .bool false] 77)).alloc (.cells #[Value.int .i64 0, .int .i64 0, .int .i64 0, .int .u64 0, .bool false] 67)).alloc (.cells #[Value.int .i64 2, .int .i64 0, .int .i64 (-1), .int .u64 (ipa : Nat), .bool sto] 67)).heap.size = w.heap.size + 1 + 1 + 1 := by simp only [World.size_alloc]
  generalize (((w.alloc (.cells #[Value.int .i64 0, .int .u64 0, .bool false, .bool false, .bool false, .bool false, .bool false, .bool false] 77)).alloc (.cells #[Value.int .i64 0, .int .i64 0, .int .i64 0, .int .u64 0, .bool false] 67)).alloc (.cells #[Value.int .i64 2, .int .i64 0, .int .i64 (-1), .int .u64 (ipa : Nat), .bool sto] 67)) = X1 at *
  obtain ⟨bf, hbf⟩ : ∃ bf, bf = w.heap.size + 1 + 1 := ⟨_, rfl⟩
  obtain ⟨b9, hb9⟩ : ∃ b9, b9 = w.heap.size + 1 := ⟨_, rfl⟩
  obtain ⟨b8, hb8⟩ : ∃ b8, b8 = w.heap.size := ⟨_, rfl⟩
  rw [← hbf, ← hb9, ← hb8] at hH
  rw [← hbf, ← hb9, ← hb8]
  have HB := Lib.hid (And.intro hb8 (And.intro hb9 (And.intro hbf hsz)))
  have HNE : Hid (b8 ≠ b9 ∧ bf ≠ b8 ∧ bf ≠ b9 ∧ w.heap.size ≤ b8 ∧ w.heap.size ≤ b9 ∧ w.heap.size ≤ bf) := Lib.hid (by omega)
  obtain ⟨hO, hKf, hK9, hK8, -⟩ := id hH
  have HK := Lib.hid (And.intro hO (And.intro hKf (And.intro hK9 hK8)))
  obtain ⟨kf, qf, zf⟩ := of_block hKf
  clear hb8 hb9 hbf hsz hH hO hKf hK9 hK8
  have hi1 : decide ((1099511627776 : Int) ≤ (ipa : Int)) = true := decide_eq_true (by omega)
  have hset : X1.setCell ⟨bf, 1, none⟩ (.int .i64 3) = putB X1 bf (.cells #[Value.int .i64 2, .int .i64 3, .int .i64 (-1), .int .u64 (ipa : Nat), .bool sto] 67) := by rw [set_of HK.out.2.1]; rfl
  have HQ6 : Hid (q = (O0, ⟨2, 3, -1, ipa, sto⟩, 0)) := Lib.hid (by rw [← HQ.out, ← HSD.out]; unfold secondN; exact if_pos hi)
  clear hi
  go_upto_region 7 with (fail)
  have KF := putB_same (.cells #[Value.int .i64 2, .int .i64 3, .int .i64 (-1), .int .u64 (ipa : Nat), .bool sto] 67) (lt_of_block HK.out.2.1)
  have K8 := (putB_other (.cells #[Value.int .i64 2, .int .i64 3, .int .i64 (-1), .int .u64 (ipa : Nat), .bool sto] 67) HNE.out.2.1).trans HK.out.2.2.2
  have K9 := (putB_other (.cells #[Value.int .i64 2, .int .i64 3, .int .i64 (-1), .int .u64 (ipa : Nat), .bool sto] 67) HNE.out.2.2.1).trans HK.out.2.2.1
  have ho := old_put HK.out.1 (.cells #[Value.int .i64 2, .int .i64 3, .int .i64 (-1), .int .u64 (ipa : Nat), .bool sto] 67) HNE.out.2.2.2.2.2
  generalize putB X1 bf (.cells #[Value.int .i64 2, .int .i64 3, .int .i64 (-1), .int .u64 (ipa : Nat), .bool sto] 67) = W2 at *
  have HW2 := Lib.hid ho
  clear ho kf qf zf hset hi1
  refine wp_region_staged (S := TwoS 2 3 b8 (.cells #[Value.int .i64 0, .int .u64 0, .bool false, .bool false, .bool false, .bool false, .bool false, .bool false] 77) b9 (.cells #[Value.int .i64 2, .int .i64 3, .int .i64 (-1), .int .u64 (ipa : Nat), .bool sto] 67) W2.drew) 5 (by kernel_rfl) (by kernel_rfl) (by kernel_rfl) (by decide) (two_start _) ?_
  apply walkedS_cons
  · intro l9 wS hz hn hS
    have hS9 := two_other 0 (by decide) (by decide) hS
    clear hS
    go_wp2
    exact ⟨rfl, rfl, hS9⟩
  · rfl
  (try simp only [Act.put, List.setIfInBounds_toArray, List.set_cons_succ, List.set_cons_zero])
  apply walkedS_cons
  · intro l9 wS hz hn hS
    have hS9 := two_other 1 (by decide) (by decide) hS
    have c9 := two_cell hS HNE.out.2.1 HNE.out.2.2.1 KF
    clear hS
    go_wp2
    exact ⟨rfl, rfl, hS9⟩
  · rfl
  (try simp only [Act.put, List.setIfInBounds_toArray, List.set_cons_succ, List.set_cons_zero])
  apply walkedS_cons
  · intro l9 wS hz hn hS
    have hb9 := two_first hn hS HNE.out.1 K8
    have hd9 := two_done1 hz (by decide) (by decide) hn HNE.out.1 hS
    refine wpList_store_whole rfl 77 _ _ rfl b8 [Value.int .i64 0, .int .u64 0, .bool false, .bool false, .bool false, .bool false, .bool false, .bool false] rfl rfl 77 _ hb9 (by kernel_rfl) rfl (by intro v hv; simp only [List.mem_cons, List.not_mem_nil, or_false] at hv; rcases hv with rfl | rfl | rfl | rfl | rfl | rfl | rfl | rfl <;> rfl) ?_
    exact ⟨rfl, rfl, hd9⟩
  · rfl
  (try simp only [Act.put, List.setIfInBounds_toArray, List.set_cons_succ, List.set_cons_zero])
  apply walkedS_cons
  · intro l9 wS hz hn hS
    have hb9 := two_second hn hS HNE.out.1 K9
    have hd9 := two_done2 hz (by decide) (by decide) hn hS
    refine wpList_store_whole rfl 67 _ _ rfl b9 [Value.int .i64 2, .int .i64 3, .int .i64 (-1), .int .u64 (ipa : Nat), .bool sto] rfl rfl 67 _ hb9 (by kernel_rfl) rfl (by intro v hv; simp only [List.mem_cons, List.not_mem_nil, or_false] at hv; rcases hv with rfl | rfl | rfl | rfl | rfl <;> rfl) ?_
    exact ⟨rfl, rfl, hd9⟩
  · rfl
  (try simp only [Act.put, List.setIfInBounds_toArray, List.set_cons_succ, List.set_cons_zero])
  apply walkedS_cons
  · intro l9 wS hz hn hS
    have hS9 := two_other 4 (by decide) (by decide) hS
    clear hS
    go_wp2
    exact ⟨rfl, rfl, hS9⟩
  · rfl
  (try simp only [Act.put, List.setIfInBounds_toArray, List.set_cons_succ, List.set_cons_zero])
  apply walkedS_nil
  intro l9 wS hz hall hS
  obtain rfl := two_all (hall 2 (by decide)) (hall 3 (by decide)) hS
  clear hS hall hz l9
  show wpList _ _ _ [] _ _
  go_wp2
  have r8 : (putB (putB W2.drew b8 (.cells #[Value.int .i64 0, .int .u64 0, .bool false, .bool false, .bool false, .bool false, .bool false, .bool false] 77)) b9 (.cells #[Value.int .i64 2, .int .i64 3, .int .i64 (-1), .int .u64 (ipa : Nat), .bool sto] 67)).heap[b8]? = some (.cells #[Value.int .i64 0, .int .u64 0, .bool false, .bool false, .bool false, .bool false, .bool false, .bool false] 77) := by rw [putB_other _ (Ne.symm HNE.out.1)]; exact putB_same _ (lt_of_block (show W2.drew.heap[b8]? = _ from K8))
  have r9 : (putB (putB W2.drew b8 (.cells #[Value.int .i64 0, .int .u64 0, .bool false, .bool false, .bool false, .bool false, .bool false, .bool false] 77)) b9 (.cells #[Value.int .i64 2, .int .i64 3, .int .i64 (-1), .int .u64 (ipa : Nat), .bool sto] 67)).heap[b9]? = some (.cells #[Value.int .i64 2, .int .i64 3, .int .i64 (-1), .int .u64 (ipa : Nat), .bool sto] 67) := putB_same _ (by rw [putB_size]; exact lt_of_block (show W2.drew.heap[b9]? = _ from K9))
  obtain ⟨k8, -, -⟩ := of_block r8
  obtain ⟨k9, -, -⟩ := of_block r9
  refine bodyPost_ret (by simp [results, Try.results34, go_sem, k8, k9]; try rfl) rfl ?_
  rw [HQ6.out]
  exact ⟨rfl, old_put (old_put (old_drew HW2.out) _ HNE.out.2.2.2.1) _ HNE.out.2.2.2.2.1⟩
set_option maxHeartbeats 16000000 in
set_option maxRecDepth 100000 in
theorem docSecond_bad {w : World} {dm : Nat} {pgs : Nat → List Nat} {wd : Nat → Nat} (hD : DocM w dm 40 pgs) (hw : ∀ a, okM 40 a = true → getN (pgs (a / 4096)) (a % 4096) 8 = wd a) (hraw : ∀ a, rawM 40 wd a < 18446744073709551616) (two ipa : Nat) (htwo : two < 18446744073709551616) (hipa : ipa < 18446744073709551616) (access : Int) (hi : ¬ 1099511627776 ≤ ipa) (hx : (walkN (rawM 40 wd) (okM 40) 2 ipa 4 0 two).2 = -1) :
    Calls Try.prog 34 #[.pointer (some ⟨dm, 0, none⟩), .int .u64 (two : Nat), .int .u64 (ipa : Nat), .int .i64 access] w (RetDoc w (secondN (rawM 40 wd) (okM 40) two ipa access)) := by
  obtain ⟨sto, hsto⟩ : ∃ sto, (access == 2) = sto := ⟨_, rfl⟩
  have hsd : decide (access = 2) = sto := by rw [← hsto]; rfl
  have HSD := Lib.hid hsd
  obtain ⟨q, hq⟩ : ∃ q, secondN (rawM 40 wd) (okM 40) two ipa access = q := ⟨_, rfl⟩
  rw [hq]
  have HQ := Lib.hid hq
  have hwc : ∀ y, Old w y → ∀ a, a < 18446744073709551616 → Calls Try.prog 61 #[.pointer (some ⟨dm, 0, none⟩), .int .u64 (a : Nat)] y (RetB y (.tuple #[.int .u64 (rawM 40 wd a : Nat), .bool (okM 40 a)])) := fun y hy a ha => word_calls (docM_old hD hy) hw a ha
  have HU := Lib.hid (And.intro htwo (And.intro hipa (And.intro hwc hraw)))
  clear hD hw hraw hsd hq hwc htwo hipa
  go_enter Try.func34, Try.ntmps34
  go_upto_region 2 with (fail)
  have hH := holds_new #[Value.int .i64 2, .int .i64 0, .int .i64 (-1), .int .u64 (ipa : Nat), .bool sto] 67 (holds_new #[Value.int .i64 0, .int .i64 0, .int .i64 0, .int .u64 0, .bool false] 67 (holds_new #[Value.int .i64 0, .int .u64 0, .bool false, .bool false, .bool false, .bool false, .bool false, .bool false] 77 (holds_nil w)))
  simp only [World.size_alloc] at hH
  have hsz : (((w.alloc (.cells #[Value.int .i64 0, .int .u64 0, .bool false, .bool false, .bool false, .bool false, .bool false, .bool false] 77)).alloc (.cells #[Value.int .i64 0, .int .i64 0, .int .i64 0, .int .u64 0, .bool false] 67)).alloc (.cells #[Value.int .i64 2, .int .i64 0, .int .i64 (-1), .int .u64 (ipa : Nat), .bool sto] 67)).heap.size = w.heap.size + 1 + 1 + 1 := by simp only [World.size_alloc]
  generalize (((w.alloc (.cells #[Value.int .i64 0, .int .u64 0, .bool false, .bool false, .bool false, .bool false, .bool false, .bool false] 77)).alloc (.cells #[Value.int .i64 0, .int .i64 0, .int .i64 0, .int .u64 0, .bool false] 67)).alloc (.cells #[Value.int .i64 2, .int .i64 0, .int .i64 (-1), .int .u64 (ipa : Nat), .bool sto] 67)) = X1 at *
  obtain ⟨bf, hbf⟩ : ∃ bf, bf = w.heap.size + 1 + 1 := ⟨_, rfl⟩
  obtain ⟨b9, hb9⟩ : ∃ b9, b9 = w.heap.size + 1 := ⟨_, rfl⟩
  obtain ⟨b8, hb8⟩ : ∃ b8, b8 = w.heap.size := ⟨_, rfl⟩
  rw [← hbf, ← hb9, ← hb8] at hH
  rw [← hbf, ← hb9, ← hb8]
  have HB := Lib.hid (And.intro hb8 (And.intro hb9 (And.intro hbf hsz)))
  have HNE : Hid (b8 ≠ b9 ∧ bf ≠ b8 ∧ bf ≠ b9 ∧ w.heap.size ≤ b8 ∧ w.heap.size ≤ b9 ∧ w.heap.size ≤ bf) := Lib.hid (by omega)
  obtain ⟨hO, hKf, hK9, hK8, -⟩ := id hH
  have HK := Lib.hid (And.intro hO (And.intro hKf (And.intro hK9 hK8)))
  obtain ⟨kf, qf, zf⟩ := of_block hKf
  clear hb8 hb9 hbf hsz hH hO hKf hK9 hK8
  have hi1 : decide ((1099511627776 : Int) ≤ (ipa : Int)) = false := decide_eq_false (by omega)
  have HI := Lib.hid hi
  clear hi
  have hqd : q = (if (walkN (rawM 40 wd) (okM 40) 2 ipa 4 0 two).2 = -1 then (O0, ⟨2, 4, -1, ipa, sto⟩, (walkN (rawM 40 wd) (okM 40) 2 ipa 4 0 two).1.length) else if (walkN (rawM 40 wd) (okM 40) 2 ipa 4 0 two).2 ≠ 0 then (O0, ⟨2, (walkN (rawM 40 wd) (okM 40) 2 ipa 4 0 two).2, -1, ipa, sto⟩, (walkN (rawM 40 wd) (okM 40) 2 ipa 4 0 two).1.length)
      else if allowsB (lastN (walkN (rawM 40 wd) (okM 40) 2 ipa 4 0 two).1).d.r (lastN (walkN (rawM 40 wd) (okM 40) 2 ipa 4 0 two).1).d.w (lastN (walkN (rawM 40 wd) (okM 40) 2 ipa 4 0 two).1).d.x access = false then (O0, ⟨2, 2, -1, ipa, sto⟩, (walkN (rawM 40 wd) (okM 40) 2 ipa 4 0 two).1.length) else (⟨outN ipa (lastN (walkN (rawM 40 wd) (okM 40) 2 ipa 4 0 two).1).lv (lastN (walkN (rawM 40 wd) (okM 40) 2 ipa 4 0 two).1).d.k (lastN (walkN (rawM 40 wd) (okM 40) 2 ipa 4 0 two).1).d.a / 4096, ipa / 4096, true, true, true, (lastN (walkN (rawM 40 wd) (okM 40) 2 ipa 4 0 two).1).d.r, (lastN (walkN (rawM 40 wd) (okM 40) 2 ipa 4 0 two).1).d.w, (lastN (walkN (rawM 40 wd) (okM 40) 2 ipa 4 0 two).1).d.x⟩, F0, (walkN (rawM 40 wd) (okM 40) 2 ipa 4 0 two).1.length)) := by
    rw [← HQ.out, ← HSD.out]
    unfold secondN
    exact if_neg HI.out
  have hok := walk_ok (rawM 40 wd) (okM 40) 2 ipa 4 0 two rfl (by decide)
  have hkinds := walk_kinds (raw := rawM 40 wd) (ok := okM 40) (st := 2) (addr := ipa) 4 0 two
  have hstart : OnWay (rawM 40 wd) (okM 40) 2 ipa 4 0 two [] (walkN (rawM 40 wd) (okM 40) 2 ipa 4 0 two) := onWay_start two
  generalize walkN (rawM 40 wd) (okM 40) 2 ipa 4 0 two = Rr at *
  have HX := Lib.hid hx
  clear hx
  have HQD := Lib.hid hqd
  have HOK := Lib.hid (And.intro hok (And.intro hkinds hstart))
  have hbg := begin_calls 2 two ipa X1
  clear hqd hok hkinds hstart HI HQ
  go_wp2_with fail
  (with_reducible refine hbg.mono ?_)
  rintro e x3 ⟨rfl, hI3, hO3⟩
  obtain ⟨pb, hpb⟩ : ∃ pb, pb = X1.heap.size := ⟨_, rfl⟩
  rw [← hpb] at hI3 ⊢
  have HI3 := Lib.hid (And.intro hI3 (And.intro hO3 (And.intro hpb (show bf < pb ∧ b8 < pb ∧ b9 < pb by have := HB.out; omega))))
  clear hbg hI3 hO3 hpb kf qf zf hi1
  go_wp2
  refine wp_loopF [false, false, false, false, false, false, false, false, false, false, false, false, true, false, true, true, false, false, false, false, false, false, false, false, false, false, false, false, false, false, false, false, false, false, false, false, true, true, true, true, true, true, true, true, true, true, true, true, true, true, true, true, true, true, true] (fun f y => ∃ (m table : Nat) (v : Value) (L0 : List St) (kind : Int) (over : Bool), f 12 = .int .i64 (m : Nat) ∧ m ≤ 4 ∧ IsW y (pb + 1) pb 2 table ipa v L0 kind over ∧ Only (fun b => b = pb ∨ pb + 1 ≤ b) x3 y ∧
    (over = false → kind = 4 ∧ m = L0.length ∧ m ≤ 3 ∧ OnWay (rawM 40 wd) (okM 40) 2 ipa (4 - m) m table L0 Rr ∧ isF (f 15) = false) ∧ (over = true → Rr = (L0, kind) ∧ m = L0.length)) (fun f => 2 * (5 - (intOf (f 12)).toNat) + (bif isF (f 15) then 0 else 1)) ?start2 ?round2
  case start2 =>
    refine ⟨0, two, _, [], 4, _, rfl, by omega, HI3.out.1, Only.refl _ _, fun _ => ⟨rfl, rfl, by omega, HOK.out.2.2, rfl⟩, fun h => ?_⟩
    exact absurd h (by decide)
  case round2 =>
    intro f2 wq hrel J2 K2 hJ2 hM2
    dsimp only [mergeA, mergeL, Nat.reduceAdd]
    obtain ⟨m, table, v, L0, kind, over, h12, hm4, hI, hOn, hf, ht⟩ := hrel
    rw [h12]
    have H12 := Lib.hid h12
    obtain ⟨k1, q1, z1⟩ := of_block hI.hp
    have HI2 := Lib.hid (And.intro hI hOn)
    have HFT := Lib.hid (And.intro hf ht)
    have HOW : Hid (Old X1 wq) := Lib.hid (Only.to_below ((Only.of_below HI3.out.2.1).step hOn (fun b hb e => by have := HI3.out.2.2.1; omega)))
    have m4 : (m : Int) ≤ 4 := by omega
    clear h12 hm4 hI hOn hf ht
    cases over
    case true =>
      obtain ⟨hRe, hme⟩ := HFT.out.2 rfl
      clear HFT
      subst hRe
      have hqd := HQD.out
      have hok := HOK.out
      clear HQD HOK
      (try dsimp only at hqd)
      (try dsimp only at hok)
      have HQD := Lib.hid hqd
      have HOK := Lib.hid hok
      clear hqd hok
      obtain ⟨a3, c3, rfl, hl3, hm3', -, q3⟩ := own_value HI2.out.1.own
      have HOWN := Lib.hid (And.intro HI2.out.1.own q3)
      have HMN := Lib.hid hme
      clear hme hl3 hm3' q3
      go_upto_region 15 with (fail)
      clear k1 q1 z1
      refine wp_region_walked (S := Old wq) (by kernel_rfl) (by kernel_rfl) (old_drew (old_refl _)) ?_
      apply walked_cons
      · intro wS hS
        have HS := Lib.hid hS
        clear hS
        go_wp2
        exact ⟨rfl, rfl, HS.out⟩
      · rfl
      (try simp only [Act.put, List.setIfInBounds_toArray, List.set_cons_succ, List.set_cons_zero])
      apply walked_cons
      · intro wS hS
        have HS := Lib.hid hS
        clear hS
        go_wp2
        exact ⟨rfl, rfl, HS.out⟩
      · rfl
      (try simp only [Act.put, List.setIfInBounds_toArray, List.set_cons_succ, List.set_cons_zero])
      apply walked_cons
      · intro wS hS
        have HS := Lib.hid hS
        clear hS
        go_wp2
        exact ⟨rfl, rfl, HS.out⟩
      · rfl
      (try simp only [Act.put, List.setIfInBounds_toArray, List.set_cons_succ, List.set_cons_zero])
      apply walked_cons
      · intro wS hS
        obtain ⟨k9, -, -⟩ := of_block (keep_old hS HI2.out.1.hp)
        have HS := Lib.hid hS
        clear hS
        go_wp2
        exact ⟨rfl, rfl, HS.out⟩
      · rfl
      (try simp only [Act.put, List.setIfInBounds_toArray, List.set_cons_succ, List.set_cons_zero])
      apply walked_cons
      · intro wS hS
        have HS := Lib.hid hS
        clear hS
        go_wp2
        exact ⟨rfl, rfl, HS.out⟩
      · rfl
      (try simp only [Act.put, List.setIfInBounds_toArray, List.set_cons_succ, List.set_cons_zero])
      apply walked_cons
      · intro wS hS
        have HS := Lib.hid hS
        clear hS
        go_wp2
        exact ⟨rfl, rfl, HS.out⟩
      · rfl
      (try simp only [Act.put, List.setIfInBounds_toArray, List.set_cons_succ, List.set_cons_zero])
      apply walked_cons
      · intro wS hS
        have HS := Lib.hid hS
        clear hS
        go_wp2
        exact ⟨rfl, rfl, HS.out⟩
      · rfl
      (try simp only [Act.put, List.setIfInBounds_toArray, List.set_cons_succ, List.set_cons_zero])
      apply walked_cons
      · intro wS hS
        obtain ⟨k9, -, -⟩ := of_block (keep_old hS HI2.out.1.hp)
        have HS := Lib.hid hS
        clear hS
        go_wp2
        exact ⟨rfl, rfl, HS.out⟩
      · rfl
      (try simp only [Act.put, List.setIfInBounds_toArray, List.set_cons_succ, List.set_cons_zero])
      apply walked_cons
      · intro wS hS
        have HS := Lib.hid hS
        clear hS
        go_wp2
        exact ⟨rfl, rfl, HS.out⟩
      · rfl
      (try simp only [Act.put, List.setIfInBounds_toArray, List.set_cons_succ, List.set_cons_zero])
      apply walked_cons
      · intro wS hS
        have HS := Lib.hid hS
        clear hS
        go_wp2
        exact ⟨rfl, rfl, HS.out⟩
      · rfl
      (try simp only [Act.put, List.setIfInBounds_toArray, List.set_cons_succ, List.set_cons_zero])
      apply walked_nil
      intro wS hS
      have hOX := old_then HOW.out hS
      have HKX := Lib.hid (And.intro (keep_old hOX HK.out.2.1) (And.intro (keep_old hOX HK.out.2.2.1) (And.intro (keep_old hOX HK.out.2.2.2) (old_then HK.out.1 hOX))))
      have hcs0 := own_old HOWN.out.1 hS
      have HCS0 := Lib.hid hcs0
      clear hS hOX hcs0
      have hK : kind = -1 := HX.out
      clear HX
      subst hK
      have HQ6 : Hid (q = (O0, ⟨2, 4, -1, ipa, sto⟩, m)) := Lib.hid (by rw [HQD.out, HMN.out]; rfl)
      clear HQD HOK
      have hset : wS.setCell ⟨bf, 1, none⟩ (.int .i64 4) = putB wS bf (.cells #[Value.int .i64 2, .int .i64 4, .int .i64 (-1), .int .u64 (ipa : Nat), .bool sto] 67) := by rw [set_of HKX.out.1]; rfl
      obtain ⟨kf, qf, zf⟩ := of_block HKX.out.1
      go_upto_region 20 with (fail)
      have KF := putB_same (.cells #[Value.int .i64 2, .int .i64 4, .int .i64 (-1), .int .u64 (ipa : Nat), .bool sto] 67) (lt_of_block HKX.out.1)
      have K8 := (putB_other (.cells #[Value.int .i64 2, .int .i64 4, .int .i64 (-1), .int .u64 (ipa : Nat), .bool sto] 67) HNE.out.2.1).trans HKX.out.2.2.1
      have K9 := (putB_other (.cells #[Value.int .i64 2, .int .i64 4, .int .i64 (-1), .int .u64 (ipa : Nat), .bool sto] 67) HNE.out.2.2.1).trans HKX.out.2.1
      have ho := old_put HKX.out.2.2.2 (.cells #[Value.int .i64 2, .int .i64 4, .int .i64 (-1), .int .u64 (ipa : Nat), .bool sto] 67) HNE.out.2.2.2.2.2
      generalize putB wS bf (.cells #[Value.int .i64 2, .int .i64 4, .int .i64 (-1), .int .u64 (ipa : Nat), .bool sto] 67) = W2 at *
      have HW2 := Lib.hid ho
      clear ho kf qf zf hset
      refine wp_region_staged (S := TwoS 3 4 b8 (.cells #[Value.int .i64 0, .int .u64 0, .bool false, .bool false, .bool false, .bool false, .bool false, .bool false] 77) b9 (.cells #[Value.int .i64 2, .int .i64 4, .int .i64 (-1), .int .u64 (ipa : Nat), .bool sto] 67) W2.drew) 6 (by kernel_rfl) (by kernel_rfl) (by kernel_rfl) (by decide) (two_start _) ?_
      apply walkedS_cons
      · intro l9 wS hz hn hS
        have hS9 := two_other 0 (by decide) (by decide) hS
        clear hS
        go_wp2
        exact ⟨rfl, rfl, hS9⟩
      · rfl
      (try simp only [Act.put, List.setIfInBounds_toArray, List.set_cons_succ, List.set_cons_zero])
      apply walkedS_cons
      · intro l9 wS hz hn hS
        have hS9 := two_other 1 (by decide) (by decide) hS
        have c9 := two_cell hS HNE.out.2.1 HNE.out.2.2.1 KF
        clear hS
        go_wp2
        exact ⟨rfl, rfl, hS9⟩
      · rfl
      (try simp only [Act.put, List.setIfInBounds_toArray, List.set_cons_succ, List.set_cons_zero])
      apply walkedS_cons
      · intro l9 wS hz hn hS
        have hS9 := two_other 2 (by decide) (by decide) hS
        clear hS
        go_wp2
        exact ⟨rfl, rfl, hS9⟩
      · rfl
      (try simp only [Act.put, List.setIfInBounds_toArray, List.set_cons_succ, List.set_cons_zero])
      apply walkedS_cons
      · intro l9 wS hz hn hS
        have hb9 := two_first hn hS HNE.out.1 K8
        have hd9 := two_done1 hz (by decide) (by decide) hn HNE.out.1 hS
        refine wpList_store_whole rfl 77 _ _ rfl b8 [Value.int .i64 0, .int .u64 0, .bool false, .bool false, .bool false, .bool false, .bool false, .bool false] rfl rfl 77 _ hb9 (by kernel_rfl) rfl (by intro v hv; simp only [List.mem_cons, List.not_mem_nil, or_false] at hv; rcases hv with rfl | rfl | rfl | rfl | rfl | rfl | rfl | rfl <;> rfl) ?_
        exact ⟨rfl, rfl, hd9⟩
      · rfl
      (try simp only [Act.put, List.setIfInBounds_toArray, List.set_cons_succ, List.set_cons_zero])
      apply walkedS_cons
      · intro l9 wS hz hn hS
        have hb9 := two_second hn hS HNE.out.1 K9
        have hd9 := two_done2 hz (by decide) (by decide) hn hS
        refine wpList_store_whole rfl 67 _ _ rfl b9 [Value.int .i64 2, .int .i64 4, .int .i64 (-1), .int .u64 (ipa : Nat), .bool sto] rfl rfl 67 _ hb9 (by kernel_rfl) rfl (by intro v hv; simp only [List.mem_cons, List.not_mem_nil, or_false] at hv; rcases hv with rfl | rfl | rfl | rfl | rfl <;> rfl) ?_
        exact ⟨rfl, rfl, hd9⟩
      · rfl
      (try simp only [Act.put, List.setIfInBounds_toArray, List.set_cons_succ, List.set_cons_zero])
      apply walkedS_cons
      · intro l9 wS hz hn hS
        have hS9 := two_other 5 (by decide) (by decide) hS
        clear hS
        go_wp2
        exact ⟨rfl, rfl, hS9⟩
      · rfl
      (try simp only [Act.put, List.setIfInBounds_toArray, List.set_cons_succ, List.set_cons_zero])
      apply walkedS_nil
      intro l9 wS hz hall hS
      obtain rfl := two_all (hall 3 (by decide)) (hall 4 (by decide)) hS
      clear hS hall hz l9
      show wpList _ _ _ [] _ _
      go_wp2
      have r8 : (putB (putB W2.drew b8 (.cells #[Value.int .i64 0, .int .u64 0, .bool false, .bool false, .bool false, .bool false, .bool false, .bool false] 77)) b9 (.cells #[Value.int .i64 2, .int .i64 4, .int .i64 (-1), .int .u64 (ipa : Nat), .bool sto] 67)).heap[b8]? = some (.cells #[Value.int .i64 0, .int .u64 0, .bool false, .bool false, .bool false, .bool false, .bool false, .bool false] 77) := by rw [putB_other _ (Ne.symm HNE.out.1)]; exact putB_same _ (lt_of_block (show W2.drew.heap[b8]? = _ from K8))
      have r9 : (putB (putB W2.drew b8 (.cells #[Value.int .i64 0, .int .u64 0, .bool false, .bool false, .bool false, .bool false, .bool false, .bool false] 77)) b9 (.cells #[Value.int .i64 2, .int .i64 4, .int .i64 (-1), .int .u64 (ipa : Nat), .bool sto] 67)).heap[b9]? = some (.cells #[Value.int .i64 2, .int .i64 4, .int .i64 (-1), .int .u64 (ipa : Nat), .bool sto] 67) := putB_same _ (by rw [putB_size]; exact lt_of_block (show W2.drew.heap[b9]? = _ from K9))
      obtain ⟨k8, -, -⟩ := of_block r8
      obtain ⟨k9, -, -⟩ := of_block r9
      refine bodyPost_ret (by simp [results, Try.results34, go_sem, k8, k9]; try rfl) rfl ?_
      rw [HQ6.out]
      exact ⟨rfl, old_put (old_put (old_drew HW2.out) _ HNE.out.2.2.2.1) _ HNE.out.2.2.2.2.1⟩
    case false =>
      obtain ⟨hk4, hmL, hm3, hway, hnf⟩ := HFT.out.1 rfl
      subst hk4
      clear HFT
      obtain ⟨T, hT⟩ : ∃ T, atN table ipa L0.length = T := ⟨_, rfl⟩
      have hat := atW_calls HI2.out.1 HU.out.2.1 (by omega)
      rw [hT] at hat
      have hTl : T < 18446744073709551616 := by rw [← hT]; exact atN_lt _ _ _
      have hwd := fun y (hy : Old wq y) => HU.out.2.2.1 y (old_then HK.out.1 (old_then HOW.out hy)) T hTl
      obtain ⟨ok, hok⟩ : ∃ ok, okM 40 T = ok := ⟨_, rfl⟩
      obtain ⟨V, hV⟩ : ∃ V, rawM 40 wd T = V := ⟨_, rfl⟩
      have hVl : V < 18446744073709551616 := by rw [← hV]; exact HU.out.2.2.2 T
      rw [hok, hV] at hwd
      have HF := Lib.hid (And.intro hmL (And.intro hm3 (And.intro hway (And.intro hT (And.intro hok (And.intro hV (And.intro hVl hnf)))))))
      have HWD := Lib.hid hwd
      clear hmL hm3 hway hnf hT hTl hwd hok hV hVl
      go_wp2_with fail
      (with_reducible refine hat.mono ?_)
      rintro e y1 ⟨rfl, hO1⟩
      have hc := HWD.out y1 hO1
      have HO1 := Lib.hid hO1
      clear hat hO1 k1 q1 z1
      go_wp2_with fail
      (with_reducible refine hc.mono ?_)
      rintro e y2 ⟨rfl, hO2⟩
      have hO := old_then HO1.out hO2
      have HI3' := Lib.hid (And.intro (isW_old HI2.out.1 hO) (HI2.out.2.trans ((Only.of_below hO).mono fun b _ f => f.elim)))
      clear hc hO2 hO
      obtain ⟨hmL, hm3, hway, hT, hok, hV, hVl, hnf⟩ := HF.out
      have hl3 : L0.length ≤ 3 := by omega
      cases ok
      case false =>
        have hg := give_no HI3'.out.1 V
        have HE := Lib.hid (And.intro (refStep_kinds hway hmL hm3 (by rw [hT]; exact hok)) (And.intro hmL (And.intro hm3 hnf)))
        clear hmL hm3 hway hT hok hV hVl hl3 hnf HF HWD
        go_wp2_with fail
        (with_reducible refine hg.mono ?_)
        rintro e y3 ⟨rfl, hI1, hO1⟩
        have HY := Lib.hid (And.intro hI1 hO1)
        clear hI1 hO1 hg
        go_wp2
        refine Met.intro (hJ2 _ _ (by kernel_rfl) ?_ ?_)
        · exact ⟨m, table, v, L0, -1, true, rfl, by have := HE.out.2.2.1; omega, HY.out.1, HI3'.out.2.trans (HY.out.2.mono fun b _ e => .inl e), fun h => (by cases h), fun _ => ⟨HE.out.1, HE.out.2.1⟩⟩
        · rw [H12.out]
          show 2 * (5 - (intOf (Value.int .i64 (m : Int))).toNat) + 0 < 2 * (5 - (intOf (Value.int .i64 (m : Int))).toNat) + (bif isF (f2 15) then 0 else 1)
          rw [HE.out.2.2.2]
          simp
      case true =>
        have hg := give_yes HI3'.out.1 HU.out.2.1 hl3 V hVl
        have hend := doc_yes hway hmL hm3 T hT hV hok
        rw [hT] at hg
        have HE := Lib.hid (And.intro hend (And.intro hmL (And.intro hm3 hnf)))
        clear hmL hm3 hway hT hok hV hVl hl3 hnf hend HF HWD
        go_wp2_with fail
        (with_reducible refine hg.mono ?_)
        rintro e y3 ⟨rfl, ⟨v', hI1⟩, hO1⟩
        have HY := Lib.hid (And.intro hI1 hO1)
        clear hI1 hO1 hg
        go_wp2
        refine Met.intro (hJ2 _ _ (by kernel_rfl) ?_ ?_)
        · exact ⟨m + 1, _, v', _, _, _, by show Value.int .i64 ((m : Int) + 1) = _; simp, by have := HE.out.2.2.1; omega, HY.out.1, HI3'.out.2.trans HY.out.2, fun h => ⟨(HE.out.1.1 h).1, (HE.out.1.1 h).2.1, (HE.out.1.1 h).2.2.1, (HE.out.1.1 h).2.2.2, rfl⟩, fun h => ⟨(HE.out.1.2 h).1, by have h1 := (HE.out.1.2 h); rw [h1.1] at h1; exact h1.2⟩⟩
        · rw [H12.out]
          exact docMu (m : Int) ((m : Int) + 1) (by omega) (by omega) (by have := HE.out.2.2.1; omega) _ _
set_option maxHeartbeats 16000000 in
set_option maxRecDepth 100000 in
theorem docSecond_kind {w : World} {dm : Nat} {pgs : Nat → List Nat} {wd : Nat → Nat} (hD : DocM w dm 40 pgs) (hw : ∀ a, okM 40 a = true → getN (pgs (a / 4096)) (a % 4096) 8 = wd a) (hraw : ∀ a, rawM 40 wd a < 18446744073709551616) (two ipa : Nat) (htwo : two < 18446744073709551616) (hipa : ipa < 18446744073709551616) (access : Int) (hi : ¬ 1099511627776 ≤ ipa) (hx : ((walkN (rawM 40 wd) (okM 40) 2 ipa 4 0 two).2 ≠ -1 ∧ (walkN (rawM 40 wd) (okM 40) 2 ipa 4 0 two).2 ≠ 0)) :
    Calls Try.prog 34 #[.pointer (some ⟨dm, 0, none⟩), .int .u64 (two : Nat), .int .u64 (ipa : Nat), .int .i64 access] w (RetDoc w (secondN (rawM 40 wd) (okM 40) two ipa access)) := by
  obtain ⟨sto, hsto⟩ : ∃ sto, (access == 2) = sto := ⟨_, rfl⟩
  have hsd : decide (access = 2) = sto := by rw [← hsto]; rfl
  have HSD := Lib.hid hsd
  obtain ⟨q, hq⟩ : ∃ q, secondN (rawM 40 wd) (okM 40) two ipa access = q := ⟨_, rfl⟩
  rw [hq]
  have HQ := Lib.hid hq
  have hwc : ∀ y, Old w y → ∀ a, a < 18446744073709551616 → Calls Try.prog 61 #[.pointer (some ⟨dm, 0, none⟩), .int .u64 (a : Nat)] y (RetB y (.tuple #[.int .u64 (rawM 40 wd a : Nat), .bool (okM 40 a)])) := fun y hy a ha => word_calls (docM_old hD hy) hw a ha
  have HU := Lib.hid (And.intro htwo (And.intro hipa (And.intro hwc hraw)))
  clear hD hw hraw hsd hq hwc htwo hipa
  go_enter Try.func34, Try.ntmps34
  go_upto_region 2 with (fail)
  have hH := holds_new #[Value.int .i64 2, .int .i64 0, .int .i64 (-1), .int .u64 (ipa : Nat), .bool sto] 67 (holds_new #[Value.int .i64 0, .int .i64 0, .int .i64 0, .int .u64 0, .bool false] 67 (holds_new #[Value.int .i64 0, .int .u64 0, .bool false, .bool false, .bool false, .bool false, .bool false, .bool false] 77 (holds_nil w)))
  simp only [World.size_alloc] at hH
  have hsz : (((w.alloc (.cells #[Value.int .i64 0, .int .u64 0, .bool false, .bool false, .bool false, .bool false, .bool false, .bool false] 77)).alloc (.cells #[Value.int .i64 0, .int .i64 0, .int .i64 0, .int .u64 0, .bool false] 67)).alloc (.cells #[Value.int .i64 2, .int .i64 0, .int .i64 (-1), .int .u64 (ipa : Nat), .bool sto] 67)).heap.size = w.heap.size + 1 + 1 + 1 := by simp only [World.size_alloc]
  generalize (((w.alloc (.cells #[Value.int .i64 0, .int .u64 0, .bool false, .bool false, .bool false, .bool false, .bool false, .bool false] 77)).alloc (.cells #[Value.int .i64 0, .int .i64 0, .int .i64 0, .int .u64 0, .bool false] 67)).alloc (.cells #[Value.int .i64 2, .int .i64 0, .int .i64 (-1), .int .u64 (ipa : Nat), .bool sto] 67)) = X1 at *
  obtain ⟨bf, hbf⟩ : ∃ bf, bf = w.heap.size + 1 + 1 := ⟨_, rfl⟩
  obtain ⟨b9, hb9⟩ : ∃ b9, b9 = w.heap.size + 1 := ⟨_, rfl⟩
  obtain ⟨b8, hb8⟩ : ∃ b8, b8 = w.heap.size := ⟨_, rfl⟩
  rw [← hbf, ← hb9, ← hb8] at hH
  rw [← hbf, ← hb9, ← hb8]
  have HB := Lib.hid (And.intro hb8 (And.intro hb9 (And.intro hbf hsz)))
  have HNE : Hid (b8 ≠ b9 ∧ bf ≠ b8 ∧ bf ≠ b9 ∧ w.heap.size ≤ b8 ∧ w.heap.size ≤ b9 ∧ w.heap.size ≤ bf) := Lib.hid (by omega)
  obtain ⟨hO, hKf, hK9, hK8, -⟩ := id hH
  have HK := Lib.hid (And.intro hO (And.intro hKf (And.intro hK9 hK8)))
  obtain ⟨kf, qf, zf⟩ := of_block hKf
  clear hb8 hb9 hbf hsz hH hO hKf hK9 hK8
  have hi1 : decide ((1099511627776 : Int) ≤ (ipa : Int)) = false := decide_eq_false (by omega)
  have HI := Lib.hid hi
  clear hi
  have hqd : q = (if (walkN (rawM 40 wd) (okM 40) 2 ipa 4 0 two).2 = -1 then (O0, ⟨2, 4, -1, ipa, sto⟩, (walkN (rawM 40 wd) (okM 40) 2 ipa 4 0 two).1.length) else if (walkN (rawM 40 wd) (okM 40) 2 ipa 4 0 two).2 ≠ 0 then (O0, ⟨2, (walkN (rawM 40 wd) (okM 40) 2 ipa 4 0 two).2, -1, ipa, sto⟩, (walkN (rawM 40 wd) (okM 40) 2 ipa 4 0 two).1.length)
      else if allowsB (lastN (walkN (rawM 40 wd) (okM 40) 2 ipa 4 0 two).1).d.r (lastN (walkN (rawM 40 wd) (okM 40) 2 ipa 4 0 two).1).d.w (lastN (walkN (rawM 40 wd) (okM 40) 2 ipa 4 0 two).1).d.x access = false then (O0, ⟨2, 2, -1, ipa, sto⟩, (walkN (rawM 40 wd) (okM 40) 2 ipa 4 0 two).1.length) else (⟨outN ipa (lastN (walkN (rawM 40 wd) (okM 40) 2 ipa 4 0 two).1).lv (lastN (walkN (rawM 40 wd) (okM 40) 2 ipa 4 0 two).1).d.k (lastN (walkN (rawM 40 wd) (okM 40) 2 ipa 4 0 two).1).d.a / 4096, ipa / 4096, true, true, true, (lastN (walkN (rawM 40 wd) (okM 40) 2 ipa 4 0 two).1).d.r, (lastN (walkN (rawM 40 wd) (okM 40) 2 ipa 4 0 two).1).d.w, (lastN (walkN (rawM 40 wd) (okM 40) 2 ipa 4 0 two).1).d.x⟩, F0, (walkN (rawM 40 wd) (okM 40) 2 ipa 4 0 two).1.length)) := by
    rw [← HQ.out, ← HSD.out]
    unfold secondN
    exact if_neg HI.out
  have hok := walk_ok (rawM 40 wd) (okM 40) 2 ipa 4 0 two rfl (by decide)
  have hkinds := walk_kinds (raw := rawM 40 wd) (ok := okM 40) (st := 2) (addr := ipa) 4 0 two
  have hstart : OnWay (rawM 40 wd) (okM 40) 2 ipa 4 0 two [] (walkN (rawM 40 wd) (okM 40) 2 ipa 4 0 two) := onWay_start two
  generalize walkN (rawM 40 wd) (okM 40) 2 ipa 4 0 two = Rr at *
  have HX := Lib.hid hx
  clear hx
  have HQD := Lib.hid hqd
  have HOK := Lib.hid (And.intro hok (And.intro hkinds hstart))
  have hbg := begin_calls 2 two ipa X1
  clear hqd hok hkinds hstart HI HQ
  go_wp2_with fail
  (with_reducible refine hbg.mono ?_)
  rintro e x3 ⟨rfl, hI3, hO3⟩
  obtain ⟨pb, hpb⟩ : ∃ pb, pb = X1.heap.size := ⟨_, rfl⟩
  rw [← hpb] at hI3 ⊢
  have HI3 := Lib.hid (And.intro hI3 (And.intro hO3 (And.intro hpb (show bf < pb ∧ b8 < pb ∧ b9 < pb by have := HB.out; omega))))
  clear hbg hI3 hO3 hpb kf qf zf hi1
  go_wp2
  refine wp_loopF [false, false, false, false, false, false, false, false, false, false, false, false, true, false, true, true, false, false, false, false, false, false, false, false, false, false, false, false, false, false, false, false, false, false, false, false, true, true, true, true, true, true, true, true, true, true, true, true, true, true, true, true, true, true, true] (fun f y => ∃ (m table : Nat) (v : Value) (L0 : List St) (kind : Int) (over : Bool), f 12 = .int .i64 (m : Nat) ∧ m ≤ 4 ∧ IsW y (pb + 1) pb 2 table ipa v L0 kind over ∧ Only (fun b => b = pb ∨ pb + 1 ≤ b) x3 y ∧
    (over = false → kind = 4 ∧ m = L0.length ∧ m ≤ 3 ∧ OnWay (rawM 40 wd) (okM 40) 2 ipa (4 - m) m table L0 Rr ∧ isF (f 15) = false) ∧ (over = true → Rr = (L0, kind) ∧ m = L0.length)) (fun f => 2 * (5 - (intOf (f 12)).toNat) + (bif isF (f 15) then 0 else 1)) ?start2 ?round2
  case start2 =>
    refine ⟨0, two, _, [], 4, _, rfl, by omega, HI3.out.1, Only.refl _ _, fun _ => ⟨rfl, rfl, by omega, HOK.out.2.2, rfl⟩, fun h => ?_⟩
    exact absurd h (by decide)
  case round2 =>
    intro f2 wq hrel J2 K2 hJ2 hM2
    dsimp only [mergeA, mergeL, Nat.reduceAdd]
    obtain ⟨m, table, v, L0, kind, over, h12, hm4, hI, hOn, hf, ht⟩ := hrel
    rw [h12]
    have H12 := Lib.hid h12
    obtain ⟨k1, q1, z1⟩ := of_block hI.hp
    have HI2 := Lib.hid (And.intro hI hOn)
    have HFT := Lib.hid (And.intro hf ht)
    have HOW : Hid (Old X1 wq) := Lib.hid (Only.to_below ((Only.of_below HI3.out.2.1).step hOn (fun b hb e => by have := HI3.out.2.2.1; omega)))
    have m4 : (m : Int) ≤ 4 := by omega
    clear h12 hm4 hI hOn hf ht
    cases over
    case true =>
      obtain ⟨hRe, hme⟩ := HFT.out.2 rfl
      clear HFT
      subst hRe
      have hqd := HQD.out
      have hok := HOK.out
      clear HQD HOK
      (try dsimp only at hqd)
      (try dsimp only at hok)
      have HQD := Lib.hid hqd
      have HOK := Lib.hid hok
      clear hqd hok
      obtain ⟨a3, c3, rfl, hl3, hm3', -, q3⟩ := own_value HI2.out.1.own
      have HOWN := Lib.hid (And.intro HI2.out.1.own q3)
      have HMN := Lib.hid hme
      clear hme hl3 hm3' q3
      go_upto_region 15 with (fail)
      clear k1 q1 z1
      refine wp_region_walked (S := Old wq) (by kernel_rfl) (by kernel_rfl) (old_drew (old_refl _)) ?_
      apply walked_cons
      · intro wS hS
        have HS := Lib.hid hS
        clear hS
        go_wp2
        exact ⟨rfl, rfl, HS.out⟩
      · rfl
      (try simp only [Act.put, List.setIfInBounds_toArray, List.set_cons_succ, List.set_cons_zero])
      apply walked_cons
      · intro wS hS
        have HS := Lib.hid hS
        clear hS
        go_wp2
        exact ⟨rfl, rfl, HS.out⟩
      · rfl
      (try simp only [Act.put, List.setIfInBounds_toArray, List.set_cons_succ, List.set_cons_zero])
      apply walked_cons
      · intro wS hS
        have HS := Lib.hid hS
        clear hS
        go_wp2
        exact ⟨rfl, rfl, HS.out⟩
      · rfl
      (try simp only [Act.put, List.setIfInBounds_toArray, List.set_cons_succ, List.set_cons_zero])
      apply walked_cons
      · intro wS hS
        obtain ⟨k9, -, -⟩ := of_block (keep_old hS HI2.out.1.hp)
        have HS := Lib.hid hS
        clear hS
        go_wp2
        exact ⟨rfl, rfl, HS.out⟩
      · rfl
      (try simp only [Act.put, List.setIfInBounds_toArray, List.set_cons_succ, List.set_cons_zero])
      apply walked_cons
      · intro wS hS
        have HS := Lib.hid hS
        clear hS
        go_wp2
        exact ⟨rfl, rfl, HS.out⟩
      · rfl
      (try simp only [Act.put, List.setIfInBounds_toArray, List.set_cons_succ, List.set_cons_zero])
      apply walked_cons
      · intro wS hS
        have HS := Lib.hid hS
        clear hS
        go_wp2
        exact ⟨rfl, rfl, HS.out⟩
      · rfl
      (try simp only [Act.put, List.setIfInBounds_toArray, List.set_cons_succ, List.set_cons_zero])
      apply walked_cons
      · intro wS hS
        have HS := Lib.hid hS
        clear hS
        go_wp2
        exact ⟨rfl, rfl, HS.out⟩
      · rfl
      (try simp only [Act.put, List.setIfInBounds_toArray, List.set_cons_succ, List.set_cons_zero])
      apply walked_cons
      · intro wS hS
        obtain ⟨k9, -, -⟩ := of_block (keep_old hS HI2.out.1.hp)
        have HS := Lib.hid hS
        clear hS
        go_wp2
        exact ⟨rfl, rfl, HS.out⟩
      · rfl
      (try simp only [Act.put, List.setIfInBounds_toArray, List.set_cons_succ, List.set_cons_zero])
      apply walked_cons
      · intro wS hS
        have HS := Lib.hid hS
        clear hS
        go_wp2
        exact ⟨rfl, rfl, HS.out⟩
      · rfl
      (try simp only [Act.put, List.setIfInBounds_toArray, List.set_cons_succ, List.set_cons_zero])
      apply walked_cons
      · intro wS hS
        have HS := Lib.hid hS
        clear hS
        go_wp2
        exact ⟨rfl, rfl, HS.out⟩
      · rfl
      (try simp only [Act.put, List.setIfInBounds_toArray, List.set_cons_succ, List.set_cons_zero])
      apply walked_nil
      intro wS hS
      have hOX := old_then HOW.out hS
      have HKX := Lib.hid (And.intro (keep_old hOX HK.out.2.1) (And.intro (keep_old hOX HK.out.2.2.1) (And.intro (keep_old hOX HK.out.2.2.2) (old_then HK.out.1 hOX))))
      have hcs0 := own_old HOWN.out.1 hS
      have HCS0 := Lib.hid hcs0
      clear hS hOX hcs0
      have hK : kind ≠ -1 := HX.out.1
      have hK0 : kind ≠ 0 := HX.out.2
      clear HX
      have HQ6 : Hid (q = (O0, ⟨2, kind, -1, ipa, sto⟩, m)) := Lib.hid (by rw [HQD.out, HMN.out]; show (if kind = -1 then _ else _) = _; rw [if_neg hK, if_pos hK0])
      have hk1 : (kind == -1) = false := by simp [hK]
      have hk2 : (kind != 0) = true := by simp [hK0]
      clear HQD HOK hK hK0
      have hset : wS.setCell ⟨bf, 1, none⟩ (.int .i64 kind) = putB wS bf (.cells #[Value.int .i64 2, .int .i64 kind, .int .i64 (-1), .int .u64 (ipa : Nat), .bool sto] 67) := by rw [set_of HKX.out.1]; rfl
      obtain ⟨kf, qf, zf⟩ := of_block HKX.out.1
      go_upto_region 20 with (fail)
      have KF := putB_same (.cells #[Value.int .i64 2, .int .i64 kind, .int .i64 (-1), .int .u64 (ipa : Nat), .bool sto] 67) (lt_of_block HKX.out.1)
      have K8 := (putB_other (.cells #[Value.int .i64 2, .int .i64 kind, .int .i64 (-1), .int .u64 (ipa : Nat), .bool sto] 67) HNE.out.2.1).trans HKX.out.2.2.1
      have K9 := (putB_other (.cells #[Value.int .i64 2, .int .i64 kind, .int .i64 (-1), .int .u64 (ipa : Nat), .bool sto] 67) HNE.out.2.2.1).trans HKX.out.2.1
      have ho := old_put HKX.out.2.2.2 (.cells #[Value.int .i64 2, .int .i64 kind, .int .i64 (-1), .int .u64 (ipa : Nat), .bool sto] 67) HNE.out.2.2.2.2.2
      generalize putB wS bf (.cells #[Value.int .i64 2, .int .i64 kind, .int .i64 (-1), .int .u64 (ipa : Nat), .bool sto] 67) = W2 at *
      have HW2 := Lib.hid ho
      clear ho kf qf zf hset
      refine wp_region_staged (S := TwoS 3 4 b8 (.cells #[Value.int .i64 0, .int .u64 0, .bool false, .bool false, .bool false, .bool false, .bool false, .bool false] 77) b9 (.cells #[Value.int .i64 2, .int .i64 kind, .int .i64 (-1), .int .u64 (ipa : Nat), .bool sto] 67) W2.drew) 6 (by kernel_rfl) (by kernel_rfl) (by kernel_rfl) (by decide) (two_start _) ?_
      apply walkedS_cons
      · intro l9 wS hz hn hS
        have hS9 := two_other 0 (by decide) (by decide) hS
        clear hS
        go_wp2
        exact ⟨rfl, rfl, hS9⟩
      · rfl
      (try simp only [Act.put, List.setIfInBounds_toArray, List.set_cons_succ, List.set_cons_zero])
      apply walkedS_cons
      · intro l9 wS hz hn hS
        have hS9 := two_other 1 (by decide) (by decide) hS
        have c9 := two_cell hS HNE.out.2.1 HNE.out.2.2.1 KF
        clear hS
        go_wp2
        exact ⟨rfl, rfl, hS9⟩
      · rfl
      (try simp only [Act.put, List.setIfInBounds_toArray, List.set_cons_succ, List.set_cons_zero])
      apply walkedS_cons
      · intro l9 wS hz hn hS
        have hS9 := two_other 2 (by decide) (by decide) hS
        clear hS
        go_wp2
        exact ⟨rfl, rfl, hS9⟩
      · rfl
      (try simp only [Act.put, List.setIfInBounds_toArray, List.set_cons_succ, List.set_cons_zero])
      apply walkedS_cons
      · intro l9 wS hz hn hS
        have hb9 := two_first hn hS HNE.out.1 K8
        have hd9 := two_done1 hz (by decide) (by decide) hn HNE.out.1 hS
        refine wpList_store_whole rfl 77 _ _ rfl b8 [Value.int .i64 0, .int .u64 0, .bool false, .bool false, .bool false, .bool false, .bool false, .bool false] rfl rfl 77 _ hb9 (by kernel_rfl) rfl (by intro v hv; simp only [List.mem_cons, List.not_mem_nil, or_false] at hv; rcases hv with rfl | rfl | rfl | rfl | rfl | rfl | rfl | rfl <;> rfl) ?_
        exact ⟨rfl, rfl, hd9⟩
      · rfl
      (try simp only [Act.put, List.setIfInBounds_toArray, List.set_cons_succ, List.set_cons_zero])
      apply walkedS_cons
      · intro l9 wS hz hn hS
        have hb9 := two_second hn hS HNE.out.1 K9
        have hd9 := two_done2 hz (by decide) (by decide) hn hS
        refine wpList_store_whole rfl 67 _ _ rfl b9 [Value.int .i64 2, .int .i64 kind, .int .i64 (-1), .int .u64 (ipa : Nat), .bool sto] rfl rfl 67 _ hb9 (by kernel_rfl) rfl (by intro v hv; simp only [List.mem_cons, List.not_mem_nil, or_false] at hv; rcases hv with rfl | rfl | rfl | rfl | rfl <;> rfl) ?_
        exact ⟨rfl, rfl, hd9⟩
      · rfl
      (try simp only [Act.put, List.setIfInBounds_toArray, List.set_cons_succ, List.set_cons_zero])
      apply walkedS_cons
      · intro l9 wS hz hn hS
        have hS9 := two_other 5 (by decide) (by decide) hS
        clear hS
        go_wp2
        exact ⟨rfl, rfl, hS9⟩
      · rfl
      (try simp only [Act.put, List.setIfInBounds_toArray, List.set_cons_succ, List.set_cons_zero])
      apply walkedS_nil
      intro l9 wS hz hall hS
      obtain rfl := two_all (hall 3 (by decide)) (hall 4 (by decide)) hS
      clear hS hall hz l9
      show wpList _ _ _ [] _ _
      go_wp2
      have r8 : (putB (putB W2.drew b8 (.cells #[Value.int .i64 0, .int .u64 0, .bool false, .bool false, .bool false, .bool false, .bool false, .bool false] 77)) b9 (.cells #[Value.int .i64 2, .int .i64 kind, .int .i64 (-1), .int .u64 (ipa : Nat), .bool sto] 67)).heap[b8]? = some (.cells #[Value.int .i64 0, .int .u64 0, .bool false, .bool false, .bool false, .bool false, .bool false, .bool false] 77) := by rw [putB_other _ (Ne.symm HNE.out.1)]; exact putB_same _ (lt_of_block (show W2.drew.heap[b8]? = _ from K8))
      have r9 : (putB (putB W2.drew b8 (.cells #[Value.int .i64 0, .int .u64 0, .bool false, .bool false, .bool false, .bool false, .bool false, .bool false] 77)) b9 (.cells #[Value.int .i64 2, .int .i64 kind, .int .i64 (-1), .int .u64 (ipa : Nat), .bool sto] 67)).heap[b9]? = some (.cells #[Value.int .i64 2, .int .i64 kind, .int .i64 (-1), .int .u64 (ipa : Nat), .bool sto] 67) := putB_same _ (by rw [putB_size]; exact lt_of_block (show W2.drew.heap[b9]? = _ from K9))
      obtain ⟨k8, -, -⟩ := of_block r8
      obtain ⟨k9, -, -⟩ := of_block r9
      refine bodyPost_ret (by simp [results, Try.results34, go_sem, k8, k9]; try rfl) rfl ?_
      rw [HQ6.out]
      exact ⟨rfl, old_put (old_put (old_drew HW2.out) _ HNE.out.2.2.2.1) _ HNE.out.2.2.2.2.1⟩
    case false =>
      obtain ⟨hk4, hmL, hm3, hway, hnf⟩ := HFT.out.1 rfl
      subst hk4
      clear HFT
      obtain ⟨T, hT⟩ : ∃ T, atN table ipa L0.length = T := ⟨_, rfl⟩
      have hat := atW_calls HI2.out.1 HU.out.2.1 (by omega)
      rw [hT] at hat
      have hTl : T < 18446744073709551616 := by rw [← hT]; exact atN_lt _ _ _
      have hwd := fun y (hy : Old wq y) => HU.out.2.2.1 y (old_then HK.out.1 (old_then HOW.out hy)) T hTl
      obtain ⟨ok, hok⟩ : ∃ ok, okM 40 T = ok := ⟨_, rfl⟩
      obtain ⟨V, hV⟩ : ∃ V, rawM 40 wd T = V := ⟨_, rfl⟩
      have hVl : V < 18446744073709551616 := by rw [← hV]; exact HU.out.2.2.2 T
      rw [hok, hV] at hwd
      have HF := Lib.hid (And.intro hmL (And.intro hm3 (And.intro hway (And.intro hT (And.intro hok (And.intro hV (And.intro hVl hnf)))))))
      have HWD := Lib.hid hwd
      clear hmL hm3 hway hnf hT hTl hwd hok hV hVl
      go_wp2_with fail
      (with_reducible refine hat.mono ?_)
      rintro e y1 ⟨rfl, hO1⟩
      have hc := HWD.out y1 hO1
      have HO1 := Lib.hid hO1
      clear hat hO1 k1 q1 z1
      go_wp2_with fail
      (with_reducible refine hc.mono ?_)
      rintro e y2 ⟨rfl, hO2⟩
      have hO := old_then HO1.out hO2
      have HI3' := Lib.hid (And.intro (isW_old HI2.out.1 hO) (HI2.out.2.trans ((Only.of_below hO).mono fun b _ f => f.elim)))
      clear hc hO2 hO
      obtain ⟨hmL, hm3, hway, hT, hok, hV, hVl, hnf⟩ := HF.out
      have hl3 : L0.length ≤ 3 := by omega
      cases ok
      case false =>
        have hg := give_no HI3'.out.1 V
        have HE := Lib.hid (And.intro (refStep_kinds hway hmL hm3 (by rw [hT]; exact hok)) (And.intro hmL (And.intro hm3 hnf)))
        clear hmL hm3 hway hT hok hV hVl hl3 hnf HF HWD
        go_wp2_with fail
        (with_reducible refine hg.mono ?_)
        rintro e y3 ⟨rfl, hI1, hO1⟩
        have HY := Lib.hid (And.intro hI1 hO1)
        clear hI1 hO1 hg
        go_wp2
        refine Met.intro (hJ2 _ _ (by kernel_rfl) ?_ ?_)
        · exact ⟨m, table, v, L0, -1, true, rfl, by have := HE.out.2.2.1; omega, HY.out.1, HI3'.out.2.trans (HY.out.2.mono fun b _ e => .inl e), fun h => (by cases h), fun _ => ⟨HE.out.1, HE.out.2.1⟩⟩
        · rw [H12.out]
          show 2 * (5 - (intOf (Value.int .i64 (m : Int))).toNat) + 0 < 2 * (5 - (intOf (Value.int .i64 (m : Int))).toNat) + (bif isF (f2 15) then 0 else 1)
          rw [HE.out.2.2.2]
          simp
      case true =>
        have hg := give_yes HI3'.out.1 HU.out.2.1 hl3 V hVl
        have hend := doc_yes hway hmL hm3 T hT hV hok
        rw [hT] at hg
        have HE := Lib.hid (And.intro hend (And.intro hmL (And.intro hm3 hnf)))
        clear hmL hm3 hway hT hok hV hVl hl3 hnf hend HF HWD
        go_wp2_with fail
        (with_reducible refine hg.mono ?_)
        rintro e y3 ⟨rfl, ⟨v', hI1⟩, hO1⟩
        have HY := Lib.hid (And.intro hI1 hO1)
        clear hI1 hO1 hg
        go_wp2
        refine Met.intro (hJ2 _ _ (by kernel_rfl) ?_ ?_)
        · exact ⟨m + 1, _, v', _, _, _, by show Value.int .i64 ((m : Int) + 1) = _; simp, by have := HE.out.2.2.1; omega, HY.out.1, HI3'.out.2.trans HY.out.2, fun h => ⟨(HE.out.1.1 h).1, (HE.out.1.1 h).2.1, (HE.out.1.1 h).2.2.1, (HE.out.1.1 h).2.2.2, rfl⟩, fun h => ⟨(HE.out.1.2 h).1, by have h1 := (HE.out.1.2 h); rw [h1.1] at h1; exact h1.2⟩⟩
        · rw [H12.out]
          exact docMu (m : Int) ((m : Int) + 1) (by omega) (by omega) (by have := HE.out.2.2.1; omega) _ _
end Go.Proofs.Ytlbehhbicmmdoaa
namespace Go.Proofs.Ytlbehhbicmmdoaa
set_option linter.unusedVariables false
set_option linter.unusedSimpArgs false
open Go.RowKit
set_option maxHeartbeats 16000000 in
set_option maxRecDepth 100000 in
theorem docSecond_deny {w : World} {dm : Nat} {pgs : Nat → List Nat} {wd : Nat → Nat} (hD : DocM w dm 40 pgs) (hw : ∀ a, okM 40 a = true → getN (pgs (a / 4096)) (a % 4096) 8 = wd a) (hraw : ∀ a, rawM 40 wd a < 18446744073709551616) (two ipa : Nat) (htwo : two < 18446744073709551616) (hipa : ipa < 18446744073709551616) (access : Int) (hi : ¬ 1099511627776 ≤ ipa) (hx : ((walkN (rawM 40 wd) (okM 40) 2 ipa 4 0 two).2 = 0 ∧ allowsB (lastN (walkN (rawM 40 wd) (okM 40) 2 ipa 4 0 two).1).d.r (lastN (walkN (rawM 40 wd) (okM 40) 2 ipa 4 0 two).1).d.w (lastN (walkN (rawM 40 wd) (okM 40) 2 ipa 4 0 two).1).d.x access = false)) :
    Calls Try.prog 34 #[.pointer (some ⟨dm, 0, none⟩), .int .u64 (two : Nat), .int .u64 (ipa : Nat), .int .i64 access] w (RetDoc w (secondN (rawM 40 wd) (okM 40) two ipa access)) := by
  obtain ⟨sto, hsto⟩ : ∃ sto, (access == 2) = sto := ⟨_, rfl⟩
  have hsd : decide (access = 2) = sto := by rw [← hsto]; rfl
  have HSD := Lib.hid hsd
  obtain ⟨q, hq⟩ : ∃ q, secondN (rawM 40 wd) (okM 40) two ipa access = q := ⟨_, rfl⟩
  rw [hq]
  have HQ := Lib.hid hq
  have hwc : ∀ y, Old w y → ∀ a, a < 18446744073709551616 → Calls Try.prog 61 #[.pointer (some ⟨dm, 0, none⟩), .int .u64 (a : Nat)] y (RetB y (.tuple #[.int .u64 (rawM 40 wd a : Nat), .bool (okM 40 a)])) := fun y hy a ha => word_calls (docM_old hD hy) hw a ha
  have HU := Lib.hid (And.intro htwo (And.intro hipa (And.intro hwc hraw)))
  clear hD hw hraw hsd hq hwc htwo hipa
  go_enter Try.func34, Try.ntmps34
  go_upto_region 2 with (fail)
  have hH := holds_new #[Value.int .i64 2, .int .i64 0, .int .i64 (-1), .int .u64 (ipa : Nat), .bool sto] 67 (holds_new #[Value.int .i64 0, .int .i64 0, .int .i64 0, .int .u64 0, .bool false] 67 (holds_new #[Value.int .i64 0, .int .u64 0, .bool false, .bool false, .bool false, .bool false, .bool false, .bool false] 77 (holds_nil w)))
  simp only [World.size_alloc] at hH
  have hsz : (((w.alloc (.cells #[Value.int .i64 0, .int .u64 0, .bool false, .bool false, .bool false, .bool false, .bool false, .bool false] 77)).alloc (.cells #[Value.int .i64 0, .int .i64 0, .int .i64 0, .int .u64 0, .bool false] 67)).alloc (.cells #[Value.int .i64 2, .int .i64 0, .int .i64 (-1), .int .u64 (ipa : Nat), .bool sto] 67)).heap.size = w.heap.size + 1 + 1 + 1 := by simp only [World.size_alloc]
  generalize (((w.alloc (.cells #[Value.int .i64 0, .int .u64 0, .bool false, .bool false, .bool false, .bool false, .bool false, .bool false] 77)).alloc (.cells #[Value.int .i64 0, .int .i64 0, .int .i64 0, .int .u64 0, .bool false] 67)).alloc (.cells #[Value.int .i64 2, .int .i64 0, .int .i64 (-1), .int .u64 (ipa : Nat), .bool sto] 67)) = X1 at *
  obtain ⟨bf, hbf⟩ : ∃ bf, bf = w.heap.size + 1 + 1 := ⟨_, rfl⟩
  obtain ⟨b9, hb9⟩ : ∃ b9, b9 = w.heap.size + 1 := ⟨_, rfl⟩
  obtain ⟨b8, hb8⟩ : ∃ b8, b8 = w.heap.size := ⟨_, rfl⟩
  rw [← hbf, ← hb9, ← hb8] at hH
  rw [← hbf, ← hb9, ← hb8]
  have HB := Lib.hid (And.intro hb8 (And.intro hb9 (And.intro hbf hsz)))
  have HNE : Hid (b8 ≠ b9 ∧ bf ≠ b8 ∧ bf ≠ b9 ∧ w.heap.size ≤ b8 ∧ w.heap.size ≤ b9 ∧ w.heap.size ≤ bf) := Lib.hid (by omega)
  obtain ⟨hO, hKf, hK9, hK8, -⟩ := id hH
  have HK := Lib.hid (And.intro hO (And.intro hKf (And.intro hK9 hK8)))
  obtain ⟨kf, qf, zf⟩ := of_block hKf
  clear hb8 hb9 hbf hsz hH hO hKf hK9 hK8
  have hi1 : decide ((1099511627776 : Int) ≤ (ipa : Int)) = false := decide_eq_false (by omega)
  have HI := Lib.hid hi
  clear hi
  have hqd : q = (if (walkN (rawM 40 wd) (okM 40) 2 ipa 4 0 two).2 = -1 then (O0, ⟨2, 4, -1, ipa, sto⟩, (walkN (rawM 40 wd) (okM 40) 2 ipa 4 0 two).1.length) else if (walkN (rawM 40 wd) (okM 40) 2 ipa 4 0 two).2 ≠ 0 then (O0, ⟨2, (walkN (rawM 40 wd) (okM 40) 2 ipa 4 0 two).2, -1, ipa, sto⟩, (walkN (rawM 40 wd) (okM 40) 2 ipa 4 0 two).1.length)
      else if allowsB (lastN (walkN (rawM 40 wd) (okM 40) 2 ipa 4 0 two).1).d.r (lastN (walkN (rawM 40 wd) (okM 40) 2 ipa 4 0 two).1).d.w (lastN (walkN (rawM 40 wd) (okM 40) 2 ipa 4 0 two).1).d.x access = false then (O0, ⟨2, 2, -1, ipa, sto⟩, (walkN (rawM 40 wd) (okM 40) 2 ipa 4 0 two).1.length) else (⟨outN ipa (lastN (walkN (rawM 40 wd) (okM 40) 2 ipa 4 0 two).1).lv (lastN (walkN (rawM 40 wd) (okM 40) 2 ipa 4 0 two).1).d.k (lastN (walkN (rawM 40 wd) (okM 40) 2 ipa 4 0 two).1).d.a / 4096, ipa / 4096, true, true, true, (lastN (walkN (rawM 40 wd) (okM 40) 2 ipa 4 0 two).1).d.r, (lastN (walkN (rawM 40 wd) (okM 40) 2 ipa 4 0 two).1).d.w, (lastN (walkN (rawM 40 wd) (okM 40) 2 ipa 4 0 two).1).d.x⟩, F0, (walkN (rawM 40 wd) (okM 40) 2 ipa 4 0 two).1.length)) := by
    rw [← HQ.out, ← HSD.out]
    unfold secondN
    exact if_neg HI.out
  have hok := walk_ok (rawM 40 wd) (okM 40) 2 ipa 4 0 two rfl (by decide)
  have hkinds := walk_kinds (raw := rawM 40 wd) (ok := okM 40) (st := 2) (addr := ipa) 4 0 two
  have hstart : OnWay (rawM 40 wd) (okM 40) 2 ipa 4 0 two [] (walkN (rawM 40 wd) (okM 40) 2 ipa 4 0 two) := onWay_start two
  generalize walkN (rawM 40 wd) (okM 40) 2 ipa 4 0 two = Rr at *
  have HX := Lib.hid hx
  clear hx
  have HQD := Lib.hid hqd
  have HOK := Lib.hid (And.intro hok (And.intro hkinds hstart))
  have hbg := begin_calls 2 two ipa X1
  clear hqd hok hkinds hstart HI HQ
  go_wp2_with fail
  (with_reducible refine hbg.mono ?_)
  rintro e x3 ⟨rfl, hI3, hO3⟩
  obtain ⟨pb, hpb⟩ : ∃ pb, pb = X1.heap.size := ⟨_, rfl⟩
  rw [← hpb] at hI3 ⊢
  have HI3 := Lib.hid (And.intro hI3 (And.intro hO3 (And.intro hpb (show bf < pb ∧ b8 < pb ∧ b9 < pb by have := HB.out; omega))))
  clear hbg hI3 hO3 hpb kf qf zf hi1
  go_wp2
  refine wp_loopF [false, false, false, false, false, false, false, false, false, false, false, false, true, false, true, true, false, false, false, false, false, false, false, false, false, false, false, false, false, false, false, false, false, false, false, false, true, true, true, true, true, true, true, true, true, true, true, true, true, true, true, true, true, true, true] (fun f y => ∃ (m table : Nat) (v : Value) (L0 : List St) (kind : Int) (over : Bool), f 12 = .int .i64 (m : Nat) ∧ m ≤ 4 ∧ IsW y (pb + 1) pb 2 table ipa v L0 kind over ∧ Only (fun b => b = pb ∨ pb + 1 ≤ b) x3 y ∧
    (over = false → kind = 4 ∧ m = L0.length ∧ m ≤ 3 ∧ OnWay (rawM 40 wd) (okM 40) 2 ipa (4 - m) m table L0 Rr ∧ isF (f 15) = false) ∧ (over = true → Rr = (L0, kind) ∧ m = L0.length)) (fun f => 2 * (5 - (intOf (f 12)).toNat) + (bif isF (f 15) then 0 else 1)) ?start2 ?round2
  case start2 =>
    refine ⟨0, two, _, [], 4, _, rfl, by omega, HI3.out.1, Only.refl _ _, fun _ => ⟨rfl, rfl, by omega, HOK.out.2.2, rfl⟩, fun h => ?_⟩
    exact absurd h (by decide)
  case round2 =>
    intro f2 wq hrel J2 K2 hJ2 hM2
    dsimp only [mergeA, mergeL, Nat.reduceAdd]
    obtain ⟨m, table, v, L0, kind, over, h12, hm4, hI, hOn, hf, ht⟩ := hrel
    rw [h12]
    have H12 := Lib.hid h12
    obtain ⟨k1, q1, z1⟩ := of_block hI.hp
    have HI2 := Lib.hid (And.intro hI hOn)
    have HFT := Lib.hid (And.intro hf ht)
    have HOW : Hid (Old X1 wq) := Lib.hid (Only.to_below ((Only.of_below HI3.out.2.1).step hOn (fun b hb e => by have := HI3.out.2.2.1; omega)))
    have m4 : (m : Int) ≤ 4 := by omega
    clear h12 hm4 hI hOn hf ht
    cases over
    case true =>
      obtain ⟨hRe, hme⟩ := HFT.out.2 rfl
      clear HFT
      subst hRe
      have hqd := HQD.out
      have hok := HOK.out
      clear HQD HOK
      (try dsimp only at hqd)
      (try dsimp only at hok)
      have HQD := Lib.hid hqd
      have HOK := Lib.hid hok
      clear hqd hok
      obtain ⟨a3, c3, rfl, hl3, hm3', -, q3⟩ := own_value HI2.out.1.own
      have HOWN := Lib.hid (And.intro HI2.out.1.own q3)
      have HMN := Lib.hid hme
      clear hme hl3 hm3' q3
      go_upto_region 15 with (fail)
      clear k1 q1 z1
      refine wp_region_walked (S := Old wq) (by kernel_rfl) (by kernel_rfl) (old_drew (old_refl _)) ?_
      apply walked_cons
      · intro wS hS
        have HS := Lib.hid hS
        clear hS
        go_wp2
        exact ⟨rfl, rfl, HS.out⟩
      · rfl
      (try simp only [Act.put, List.setIfInBounds_toArray, List.set_cons_succ, List.set_cons_zero])
      apply walked_cons
      · intro wS hS
        have HS := Lib.hid hS
        clear hS
        go_wp2
        exact ⟨rfl, rfl, HS.out⟩
      · rfl
      (try simp only [Act.put, List.setIfInBounds_toArray, List.set_cons_succ, List.set_cons_zero])
      apply walked_cons
      · intro wS hS
        have HS := Lib.hid hS
        clear hS
        go_wp2
        exact ⟨rfl, rfl, HS.out⟩
      · rfl
      (try simp only [Act.put, List.setIfInBounds_toArray, List.set_cons_succ, List.set_cons_zero])
      apply walked_cons
      · intro wS hS
        obtain ⟨k9, -, -⟩ := of_block (keep_old hS HI2.out.1.hp)
        have HS := Lib.hid hS
        clear hS
        go_wp2
        exact ⟨rfl, rfl, HS.out⟩
      · rfl
      (try simp only [Act.put, List.setIfInBounds_toArray, List.set_cons_succ, List.set_cons_zero])
      apply walked_cons
      · intro wS hS
        have HS := Lib.hid hS
        clear hS
        go_wp2
        exact ⟨rfl, rfl, HS.out⟩
      · rfl
      (try simp only [Act.put, List.setIfInBounds_toArray, List.set_cons_succ, List.set_cons_zero])
      apply walked_cons
      · intro wS hS
        have HS := Lib.hid hS
        clear hS
        go_wp2
        exact ⟨rfl, rfl, HS.out⟩
      · rfl
      (try simp only [Act.put, List.setIfInBounds_toArray, List.set_cons_succ, List.set_cons_zero])
      apply walked_cons
      · intro wS hS
        have HS := Lib.hid hS
        clear hS
        go_wp2
        exact ⟨rfl, rfl, HS.out⟩
      · rfl
      (try simp only [Act.put, List.setIfInBounds_toArray, List.set_cons_succ, List.set_cons_zero])
      apply walked_cons
      · intro wS hS
        obtain ⟨k9, -, -⟩ := of_block (keep_old hS HI2.out.1.hp)
        have HS := Lib.hid hS
        clear hS
        go_wp2
        exact ⟨rfl, rfl, HS.out⟩
      · rfl
      (try simp only [Act.put, List.setIfInBounds_toArray, List.set_cons_succ, List.set_cons_zero])
      apply walked_cons
      · intro wS hS
        have HS := Lib.hid hS
        clear hS
        go_wp2
        exact ⟨rfl, rfl, HS.out⟩
      · rfl
      (try simp only [Act.put, List.setIfInBounds_toArray, List.set_cons_succ, List.set_cons_zero])
      apply walked_cons
      · intro wS hS
        have HS := Lib.hid hS
        clear hS
        go_wp2
        exact ⟨rfl, rfl, HS.out⟩
      · rfl
      (try simp only [Act.put, List.setIfInBounds_toArray, List.set_cons_succ, List.set_cons_zero])
      apply walked_nil
      intro wS hS
      have hOX := old_then HOW.out hS
      have HKX := Lib.hid (And.intro (keep_old hOX HK.out.2.1) (And.intro (keep_old hOX HK.out.2.2.1) (And.intro (keep_old hOX HK.out.2.2.2) (old_then HK.out.1 hOX))))
      have hcs0 := own_old HOWN.out.1 hS
      have HCS0 := Lib.hid hcs0
      clear hS hOX hcs0
      have hK0 : kind = 0 := HX.out.1
      have hK : ¬ kind = -1 := by rw [hK0]; decide
      have hal9 := HX.out.2
      clear HX
      have HAL9 := Lib.hid hal9
      clear hal9
      subst hK0
      have hn1 : 1 ≤ m := by
        have := HOK.out.1.some_ (show (0 : Int) ≠ -1 by decide)
        rw [HMN.out]; exact this
      obtain ⟨s, hs0, hs1, hs⟩ := last_mem (l := L0) (by rw [← HMN.out]; exact hn1)
      rw [← HMN.out] at hs
      obtain ⟨f1, f2', f3, f4⟩ := way_at HOK.out.1.way hs
      have hl4 : m ≤ 4 := by rw [HMN.out]; exact HOK.out.1.len
      obtain ⟨g1, rfl⟩ := HOWN.out.2 (by rw [← HMN.out]; omega)
      have hcs : ∀ (c : Nat) (u : Value), s.cells[c]? = some u → wS.cell? ⟨g1, (m - 1) * 9 + c, none⟩ = some u := fun c u hu => own_cell HCS0.out rfl _ (stCells_get L0 _ s c u hs hu)
      have HAL8 : Hid (allowsB s.d.r s.d.w s.d.x access = false) := Lib.hid (by rw [← hs1]; exact HAL9.out)
      have HQ7 : Hid (q = (if allowsB s.d.r s.d.w s.d.x access = false then (O0, ⟨2, 2, -1, ipa, sto⟩, m) else (⟨outN ipa s.lv s.d.k s.d.a / 4096, ipa / 4096, true, true, true, s.d.r, s.d.w, s.d.x⟩, F0, m))) := Lib.hid (by rw [HQD.out, HMN.out, ← hs1]; rfl)
      obtain ⟨lv, sat, sraw, ⟨dk, da, dr, dw, dx, dS⟩⟩ := s
      have hcs2 : ∀ (c : Nat) (u : Value), [Value.int .i64 (lv : Nat), .int .u64 (sat : Nat), .int .u64 (sraw : Nat), .int .i64 dk, .int .u64 (da : Nat), .bool dr, .bool dw, .bool dx, .int .i64 dS][c]? = some u → wS.cell? ⟨g1, (m - 1) * 9 + c, none⟩ = some u := hcs
      have hda : da < 18446744073709551616 := f4
      have HQ8 : Hid (q = (if allowsB dr dw dx access = false then (O0, ⟨2, 2, -1, ipa, sto⟩, m) else (⟨outN ipa lv dk da / 4096, ipa / 4096, true, true, true, dr, dw, dx⟩, F0, m))) := Lib.hid HQ7.out
      have HCS := Lib.hid hcs2
      have HDA := Lib.hid hda
      have hlen : L0.length = m := HMN.out.symm
      rw [hlen]
      have hn1' : ((m - 1 : Nat) : Int) = (m : Int) - 1 := by omega
      have n4 : (m : Int) ≤ 4 := by omega
      have hge : (0 : Int) ≤ (m : Int) - 1 := by omega
      have hlt : (m : Int) - 1 < m := by omega
      have htn : ((m : Int) - 1).toNat = m - 1 := by omega
      have HN1 := Lib.hid hn1'
      have HLEN := Lib.hid hlen
      clear hlen hn1 hs0 hs1 hs f1 f2' f3 f4 hl4 hcs HQ7 HQD hcs2 hda hK HOK
      go_upto_region 22 with (refine wpList_load_at rfl 54 _ rfl g1 ((m - 1) * 9) rfl [Value.int .i64 (lv : Nat), .int .u64 (sat : Nat), .int .u64 (sraw : Nat), .int .i64 dk, .int .u64 (da : Nat), .bool dr, .bool dw, .bool dx, .int .i64 dS] _ HCS.out Try.underlying54 rfl (by kernel_rfl) ?_)
      have hO3 := old_alloc (old_refl wS) (.cells #[Value.int .i64 (lv : Nat), .int .u64 (sat : Nat), .int .u64 (sraw : Nat), .int .i64 dk, .int .u64 (da : Nat), .bool dr, .bool dw, .bool dx, .int .i64 dS] 54)
      have hxb := new_block wS (.cells #[Value.int .i64 (lv : Nat), .int .u64 (sat : Nat), .int .u64 (sraw : Nat), .int .i64 dk, .int .u64 (da : Nat), .bool dr, .bool dw, .bool dx, .int .i64 dS] 54)
      generalize wS.alloc (.cells #[Value.int .i64 (lv : Nat), .int .u64 (sat : Nat), .int .u64 (sraw : Nat), .int .i64 dk, .int .u64 (da : Nat), .bool dr, .bool dw, .bool dx, .int .i64 dS] 54) = X3 at *
      obtain ⟨bl, hbl⟩ : ∃ bl, bl = wS.heap.size := ⟨_, rfl⟩
      rw [← hbl] at hxb ⊢
      have HBL : Hid (b8 < bl ∧ b9 < bl ∧ bf < bl) := Lib.hid (by have h1 := lt_of_block HKX.out.1; have h2 := lt_of_block HKX.out.2.1; have h3 := lt_of_block HKX.out.2.2.1; omega)
      have HK3 := Lib.hid (And.intro (keep_old hO3 HKX.out.1) (And.intro (keep_old hO3 HKX.out.2.1) (And.intro (keep_old hO3 HKX.out.2.2.1) (And.intro (old_then HKX.out.2.2.2 hO3) hxb))))
      obtain ⟨km, qm, zm⟩ := of_block hxb
      have HALL := Lib.hid (allows14_calls dr dw dx access)
      clear hO3 hbl HCS hn1' hge hlt htn HKX HCS0 hxb
      have hal : allowsB dr dw dx access = false := HAL8.out
      have HQ6 : Hid (q = (O0, ⟨2, 2, -1, ipa, sto⟩, m)) := Lib.hid (by rw [HQ8.out, if_pos hal])
      have hc := HALL.out X3
      rw [hal] at hc
      clear hal
      go_wp2_with fail
      (with_reducible refine hc.mono ?_)
      rintro e x4 ⟨rfl, hO4⟩
      have HKX := Lib.hid (And.intro (keep_old hO4 HK3.out.1) (And.intro (keep_old hO4 HK3.out.2.1) (And.intro (keep_old hO4 HK3.out.2.2.1) (old_then HK3.out.2.2.2.1 hO4))))
      clear hO4 hc km qm zm
      have hset : x4.setCell ⟨bf, 1, none⟩ (.int .i64 2) = putB x4 bf (.cells #[Value.int .i64 2, .int .i64 2, .int .i64 (-1), .int .u64 (ipa : Nat), .bool sto] 67) := by rw [set_of HKX.out.1]; rfl
      obtain ⟨kf, qf, zf⟩ := of_block HKX.out.1
      go_upto_region 24 with (fail)
      have KF := putB_same (.cells #[Value.int .i64 2, .int .i64 2, .int .i64 (-1), .int .u64 (ipa : Nat), .bool sto] 67) (lt_of_block HKX.out.1)
      have K8 := (putB_other (.cells #[Value.int .i64 2, .int .i64 2, .int .i64 (-1), .int .u64 (ipa : Nat), .bool sto] 67) HNE.out.2.1).trans HKX.out.2.2.1
      have K9 := (putB_other (.cells #[Value.int .i64 2, .int .i64 2, .int .i64 (-1), .int .u64 (ipa : Nat), .bool sto] 67) HNE.out.2.2.1).trans HKX.out.2.1
      have ho := old_put HKX.out.2.2.2 (.cells #[Value.int .i64 2, .int .i64 2, .int .i64 (-1), .int .u64 (ipa : Nat), .bool sto] 67) HNE.out.2.2.2.2.2
      generalize putB x4 bf (.cells #[Value.int .i64 2, .int .i64 2, .int .i64 (-1), .int .u64 (ipa : Nat), .bool sto] 67) = W2 at *
      have HW2 := Lib.hid ho
      clear ho kf qf zf hset
      refine wp_region_staged (S := TwoS 3 4 b8 (.cells #[Value.int .i64 0, .int .u64 0, .bool false, .bool false, .bool false, .bool false, .bool false, .bool false] 77) b9 (.cells #[Value.int .i64 2, .int .i64 2, .int .i64 (-1), .int .u64 (ipa : Nat), .bool sto] 67) W2.drew) 6 (by kernel_rfl) (by kernel_rfl) (by kernel_rfl) (by decide) (two_start _) ?_
      apply walkedS_cons
      · intro l9 wS hz hn hS
        have hS9 := two_other 0 (by decide) (by decide) hS
        clear hS
        go_wp2
        exact ⟨rfl, rfl, hS9⟩
      · rfl
      (try simp only [Act.put, List.setIfInBounds_toArray, List.set_cons_succ, List.set_cons_zero])
      apply walkedS_cons
      · intro l9 wS hz hn hS
        have hS9 := two_other 1 (by decide) (by decide) hS
        have c9 := two_cell hS HNE.out.2.1 HNE.out.2.2.1 KF
        clear hS
        go_wp2
        exact ⟨rfl, rfl, hS9⟩
      · rfl
      (try simp only [Act.put, List.setIfInBounds_toArray, List.set_cons_succ, List.set_cons_zero])
      apply walkedS_cons
      · intro l9 wS hz hn hS
        have hS9 := two_other 2 (by decide) (by decide) hS
        clear hS
        go_wp2
        exact ⟨rfl, rfl, hS9⟩
      · rfl
      (try simp only [Act.put, List.setIfInBounds_toArray, List.set_cons_succ, List.set_cons_zero])
      apply walkedS_cons
      · intro l9 wS hz hn hS
        have hb9 := two_first hn hS HNE.out.1 K8
        have hd9 := two_done1 hz (by decide) (by decide) hn HNE.out.1 hS
        refine wpList_store_whole rfl 77 _ _ rfl b8 [Value.int .i64 0, .int .u64 0, .bool false, .bool false, .bool false, .bool false, .bool false, .bool false] rfl rfl 77 _ hb9 (by kernel_rfl) rfl (by intro v hv; simp only [List.mem_cons, List.not_mem_nil, or_false] at hv; rcases hv with rfl | rfl | rfl | rfl | rfl | rfl | rfl | rfl <;> rfl) ?_
        exact ⟨rfl, rfl, hd9⟩
      · rfl
      (try simp only [Act.put, List.setIfInBounds_toArray, List.set_cons_succ, List.set_cons_zero])
      apply walkedS_cons
      · intro l9 wS hz hn hS
        have hb9 := two_second hn hS HNE.out.1 K9
        have hd9 := two_done2 hz (by decide) (by decide) hn hS
        refine wpList_store_whole rfl 67 _ _ rfl b9 [Value.int .i64 2, .int .i64 2, .int .i64 (-1), .int .u64 (ipa : Nat), .bool sto] rfl rfl 67 _ hb9 (by kernel_rfl) rfl (by intro v hv; simp only [List.mem_cons, List.not_mem_nil, or_false] at hv; rcases hv with rfl | rfl | rfl | rfl | rfl <;> rfl) ?_
        exact ⟨rfl, rfl, hd9⟩
      · rfl
      (try simp only [Act.put, List.setIfInBounds_toArray, List.set_cons_succ, List.set_cons_zero])
      apply walkedS_cons
      · intro l9 wS hz hn hS
        have hS9 := two_other 5 (by decide) (by decide) hS
        clear hS
        go_wp2
        exact ⟨rfl, rfl, hS9⟩
      · rfl
      (try simp only [Act.put, List.setIfInBounds_toArray, List.set_cons_succ, List.set_cons_zero])
      apply walkedS_nil
      intro l9 wS hz hall hS
      obtain rfl := two_all (hall 3 (by decide)) (hall 4 (by decide)) hS
      clear hS hall hz l9
      show wpList _ _ _ [] _ _
      go_wp2
      have r8 : (putB (putB W2.drew b8 (.cells #[Value.int .i64 0, .int .u64 0, .bool false, .bool false, .bool false, .bool false, .bool false, .bool false] 77)) b9 (.cells #[Value.int .i64 2, .int .i64 2, .int .i64 (-1), .int .u64 (ipa : Nat), .bool sto] 67)).heap[b8]? = some (.cells #[Value.int .i64 0, .int .u64 0, .bool false, .bool false, .bool false, .bool false, .bool false, .bool false] 77) := by rw [putB_other _ (Ne.symm HNE.out.1)]; exact putB_same _ (lt_of_block (show W2.drew.heap[b8]? = _ from K8))
      have r9 : (putB (putB W2.drew b8 (.cells #[Value.int .i64 0, .int .u64 0, .bool false, .bool false, .bool false, .bool false, .bool false, .bool false] 77)) b9 (.cells #[Value.int .i64 2, .int .i64 2, .int .i64 (-1), .int .u64 (ipa : Nat), .bool sto] 67)).heap[b9]? = some (.cells #[Value.int .i64 2, .int .i64 2, .int .i64 (-1), .int .u64 (ipa : Nat), .bool sto] 67) := putB_same _ (by rw [putB_size]; exact lt_of_block (show W2.drew.heap[b9]? = _ from K9))
      obtain ⟨k8, -, -⟩ := of_block r8
      obtain ⟨k9, -, -⟩ := of_block r9
      refine bodyPost_ret (by simp [results, Try.results34, go_sem, k8, k9]; try rfl) rfl ?_
      rw [HQ6.out]
      exact ⟨rfl, old_put (old_put (old_drew HW2.out) _ HNE.out.2.2.2.1) _ HNE.out.2.2.2.2.1⟩
    case false =>
      obtain ⟨hk4, hmL, hm3, hway, hnf⟩ := HFT.out.1 rfl
      subst hk4
      clear HFT
      obtain ⟨T, hT⟩ : ∃ T, atN table ipa L0.length = T := ⟨_, rfl⟩
      have hat := atW_calls HI2.out.1 HU.out.2.1 (by omega)
      rw [hT] at hat
      have hTl : T < 18446744073709551616 := by rw [← hT]; exact atN_lt _ _ _
      have hwd := fun y (hy : Old wq y) => HU.out.2.2.1 y (old_then HK.out.1 (old_then HOW.out hy)) T hTl
      obtain ⟨ok, hok⟩ : ∃ ok, okM 40 T = ok := ⟨_, rfl⟩
      obtain ⟨V, hV⟩ : ∃ V, rawM 40 wd T = V := ⟨_, rfl⟩
      have hVl : V < 18446744073709551616 := by rw [← hV]; exact HU.out.2.2.2 T
      rw [hok, hV] at hwd
      have HF := Lib.hid (And.intro hmL (And.intro hm3 (And.intro hway (And.intro hT (And.intro hok (And.intro hV (And.intro hVl hnf)))))))
      have HWD := Lib.hid hwd
      clear hmL hm3 hway hnf hT hTl hwd hok hV hVl
      go_wp2_with fail
      (with_reducible refine hat.mono ?_)
      rintro e y1 ⟨rfl, hO1⟩
      have hc := HWD.out y1 hO1
      have HO1 := Lib.hid hO1
      clear hat hO1 k1 q1 z1
      go_wp2_with fail
      (with_reducible refine hc.mono ?_)
      rintro e y2 ⟨rfl, hO2⟩
      have hO := old_then HO1.out hO2
      have HI3' := Lib.hid (And.intro (isW_old HI2.out.1 hO) (HI2.out.2.trans ((Only.of_below hO).mono fun b _ f => f.elim)))
      clear hc hO2 hO
      obtain ⟨hmL, hm3, hway, hT, hok, hV, hVl, hnf⟩ := HF.out
      have hl3 : L0.length ≤ 3 := by omega
      cases ok
      case false =>
        have hg := give_no HI3'.out.1 V
        have HE := Lib.hid (And.intro (refStep_kinds hway hmL hm3 (by rw [hT]; exact hok)) (And.intro hmL (And.intro hm3 hnf)))
        clear hmL hm3 hway hT hok hV hVl hl3 hnf HF HWD
        go_wp2_with fail
        (with_reducible refine hg.mono ?_)
        rintro e y3 ⟨rfl, hI1, hO1⟩
        have HY := Lib.hid (And.intro hI1 hO1)
        clear hI1 hO1 hg
        go_wp2
        refine Met.intro (hJ2 _ _ (by kernel_rfl) ?_ ?_)
        · exact ⟨m, table, v, L0, -1, true, rfl, by have := HE.out.2.2.1; omega, HY.out.1, HI3'.out.2.trans (HY.out.2.mono fun b _ e => .inl e), fun h => (by cases h), fun _ => ⟨HE.out.1, HE.out.2.1⟩⟩
        · rw [H12.out]
          show 2 * (5 - (intOf (Value.int .i64 (m : Int))).toNat) + 0 < 2 * (5 - (intOf (Value.int .i64 (m : Int))).toNat) + (bif isF (f2 15) then 0 else 1)
          rw [HE.out.2.2.2]
          simp
      case true =>
        have hg := give_yes HI3'.out.1 HU.out.2.1 hl3 V hVl
        have hend := doc_yes hway hmL hm3 T hT hV hok
        rw [hT] at hg
        have HE := Lib.hid (And.intro hend (And.intro hmL (And.intro hm3 hnf)))
        clear hmL hm3 hway hT hok hV hVl hl3 hnf hend HF HWD
        go_wp2_with fail
        (with_reducible refine hg.mono ?_)
        rintro e y3 ⟨rfl, ⟨v', hI1⟩, hO1⟩
        have HY := Lib.hid (And.intro hI1 hO1)
        clear hI1 hO1 hg
        go_wp2
        refine Met.intro (hJ2 _ _ (by kernel_rfl) ?_ ?_)
        · exact ⟨m + 1, _, v', _, _, _, by show Value.int .i64 ((m : Int) + 1) = _; simp, by have := HE.out.2.2.1; omega, HY.out.1, HI3'.out.2.trans HY.out.2, fun h => ⟨(HE.out.1.1 h).1, (HE.out.1.1 h).2.1, (HE.out.1.1 h).2.2.1, (HE.out.1.1 h).2.2.2, rfl⟩, fun h => ⟨(HE.out.1.2 h).1, by have h1 := (HE.out.1.2 h); rw [h1.1] at h1; exact h1.2⟩⟩
        · rw [H12.out]
          exact docMu (m : Int) ((m : Int) + 1) (by omega) (by omega) (by have := HE.out.2.2.1; omega) _ _
end Go.Proofs.Ytlbehhbicmmdoaa
namespace Go.Proofs.Ytlbehhbicmmdoaa
set_option linter.unusedVariables false
set_option linter.unusedSimpArgs false
open Go.RowKit
theorem div_name {a q : Nat} (h : a / 4096 = q) : (a : Int) / 4096 = (q : Int) := by rw [← h]; rfl
theorem div_small {a q : Nat} (h : a / 4096 = q) (ha : a < 18446744073709551616) : wrap64 (q : Int) = (q : Int) ∧ IntKind.u64.wrap (q : Int) = (q : Int) := by
  have hq : q < 4503599627370496 := by rw [← h]; exact Nat.div_lt_of_lt_mul ha
  exact ⟨IntWalk.wrap64_in _ (by omega), IntWalk.u64_in _ (by omega)⟩
set_option maxHeartbeats 16000000 in
set_option maxRecDepth 100000 in
theorem docSecond_let {w : World} {dm : Nat} {pgs : Nat → List Nat} {wd : Nat → Nat} (hD : DocM w dm 40 pgs) (hw : ∀ a, okM 40 a = true → getN (pgs (a / 4096)) (a % 4096) 8 = wd a) (hraw : ∀ a, rawM 40 wd a < 18446744073709551616) (two ipa : Nat) (htwo : two < 18446744073709551616) (hipa : ipa < 18446744073709551616) (access : Int) (hi : ¬ 1099511627776 ≤ ipa) (hx : ((walkN (rawM 40 wd) (okM 40) 2 ipa 4 0 two).2 = 0 ∧ allowsB (lastN (walkN (rawM 40 wd) (okM 40) 2 ipa 4 0 two).1).d.r (lastN (walkN (rawM 40 wd) (okM 40) 2 ipa 4 0 two).1).d.w (lastN (walkN (rawM 40 wd) (okM 40) 2 ipa 4 0 two).1).d.x access = true)) :
    Calls Try.prog 34 #[.pointer (some ⟨dm, 0, none⟩), .int .u64 (two : Nat), .int .u64 (ipa : Nat), .int .i64 access] w (RetDoc w (secondN (rawM 40 wd) (okM 40) two ipa access)) := by
  obtain ⟨sto, hsto⟩ : ∃ sto, (access == 2) = sto := ⟨_, rfl⟩
  have hsd : decide (access = 2) = sto := by rw [← hsto]; rfl
  have HSD := Lib.hid hsd
  obtain ⟨q, hq⟩ : ∃ q, secondN (rawM 40 wd) (okM 40) two ipa access = q := ⟨_, rfl⟩
  rw [hq]
  have HQ := Lib.hid hq
  have hwc : ∀ y, Old w y → ∀ a, a < 18446744073709551616 → Calls Try.prog 61 #[.pointer (some ⟨dm, 0, none⟩), .int .u64 (a : Nat)] y (RetB y (.tuple #[.int .u64 (rawM 40 wd a : Nat), .bool (okM 40 a)])) := fun y hy a ha => word_calls (docM_old hD hy) hw a ha
  have HU := Lib.hid (And.intro htwo (And.intro hipa (And.intro hwc hraw)))
  clear hD hw hraw hsd hq hwc htwo hipa
  go_enter Try.func34, Try.ntmps34
  go_upto_region 2 with (fail)
  have hH := holds_new #[Value.int .i64 2, .int .i64 0, .int .i64 (-1), .int .u64 (ipa : Nat), .bool sto] 67 (holds_new #[Value.int .i64 0, .int .i64 0, .int .i64 0, .int .u64 0, .bool false] 67 (holds_new #[Value.int .i64 0, .int .u64 0, .bool false, .bool false, .bool false, .bool false, .bool false, .bool false] 77 (holds_nil w)))
  simp only [World.size_alloc] at hH
  have hsz : (((w.alloc (.cells #[Value.int .i64 0, .int .u64 0, .bool false, .bool false, .bool false, .bool false, .bool false, .bool false] 77)).alloc (.cells #[Value.int .i64 0, .int .i64 0, .int .i64 0, .int .u64 0, .bool false] 67)).alloc (.cells #[Value.int .i64 2, .int .i64 0, .int .i64 (-1), .int .u64 (ipa : Nat), .bool sto] 67)).heap.size = w.heap.size + 1 + 1 + 1 := by simp only [World.size_alloc]
  generalize (((w.alloc (.cells #[Value.int .i64 0, .int .u64 0, .bool false, .bool false, .bool false, .bool false, .bool false, .bool false] 77)).alloc (.cells #[Value.int .i64 0, .int .i64 0, .int .i64 0, .int .u64 0, .bool false] 67)).alloc (.cells #[Value.int .i64 2, .int .i64 0, .int .i64 (-1), .int .u64 (ipa : Nat), .bool sto] 67)) = X1 at *
  obtain ⟨bf, hbf⟩ : ∃ bf, bf = w.heap.size + 1 + 1 := ⟨_, rfl⟩
  obtain ⟨b9, hb9⟩ : ∃ b9, b9 = w.heap.size + 1 := ⟨_, rfl⟩
  obtain ⟨b8, hb8⟩ : ∃ b8, b8 = w.heap.size := ⟨_, rfl⟩
  rw [← hbf, ← hb9, ← hb8] at hH
  rw [← hbf, ← hb9, ← hb8]
  have HB := Lib.hid (And.intro hb8 (And.intro hb9 (And.intro hbf hsz)))
  have HNE : Hid (b8 ≠ b9 ∧ bf ≠ b8 ∧ bf ≠ b9 ∧ w.heap.size ≤ b8 ∧ w.heap.size ≤ b9 ∧ w.heap.size ≤ bf) := Lib.hid (by omega)
  obtain ⟨hO, hKf, hK9, hK8, -⟩ := id hH
  have HK := Lib.hid (And.intro hO (And.intro hKf (And.intro hK9 hK8)))
  obtain ⟨kf, qf, zf⟩ := of_block hKf
  clear hb8 hb9 hbf hsz hH hO hKf hK9 hK8
  have hi1 : decide ((1099511627776 : Int) ≤ (ipa : Int)) = false := decide_eq_false (by omega)
  have HI := Lib.hid hi
  clear hi
  have hqd : q = (if (walkN (rawM 40 wd) (okM 40) 2 ipa 4 0 two).2 = -1 then (O0, ⟨2, 4, -1, ipa, sto⟩, (walkN (rawM 40 wd) (okM 40) 2 ipa 4 0 two).1.length) else if (walkN (rawM 40 wd) (okM 40) 2 ipa 4 0 two).2 ≠ 0 then (O0, ⟨2, (walkN (rawM 40 wd) (okM 40) 2 ipa 4 0 two).2, -1, ipa, sto⟩, (walkN (rawM 40 wd) (okM 40) 2 ipa 4 0 two).1.length)
      else if allowsB (lastN (walkN (rawM 40 wd) (okM 40) 2 ipa 4 0 two).1).d.r (lastN (walkN (rawM 40 wd) (okM 40) 2 ipa 4 0 two).1).d.w (lastN (walkN (rawM 40 wd) (okM 40) 2 ipa 4 0 two).1).d.x access = false then (O0, ⟨2, 2, -1, ipa, sto⟩, (walkN (rawM 40 wd) (okM 40) 2 ipa 4 0 two).1.length) else (⟨outN ipa (lastN (walkN (rawM 40 wd) (okM 40) 2 ipa 4 0 two).1).lv (lastN (walkN (rawM 40 wd) (okM 40) 2 ipa 4 0 two).1).d.k (lastN (walkN (rawM 40 wd) (okM 40) 2 ipa 4 0 two).1).d.a / 4096, ipa / 4096, true, true, true, (lastN (walkN (rawM 40 wd) (okM 40) 2 ipa 4 0 two).1).d.r, (lastN (walkN (rawM 40 wd) (okM 40) 2 ipa 4 0 two).1).d.w, (lastN (walkN (rawM 40 wd) (okM 40) 2 ipa 4 0 two).1).d.x⟩, F0, (walkN (rawM 40 wd) (okM 40) 2 ipa 4 0 two).1.length)) := by
    rw [← HQ.out, ← HSD.out]
    unfold secondN
    exact if_neg HI.out
  have hok := walk_ok (rawM 40 wd) (okM 40) 2 ipa 4 0 two rfl (by decide)
  have hkinds := walk_kinds (raw := rawM 40 wd) (ok := okM 40) (st := 2) (addr := ipa) 4 0 two
  have hstart : OnWay (rawM 40 wd) (okM 40) 2 ipa 4 0 two [] (walkN (rawM 40 wd) (okM 40) 2 ipa 4 0 two) := onWay_start two
  generalize walkN (rawM 40 wd) (okM 40) 2 ipa 4 0 two = Rr at *
  have HX := Lib.hid hx
  clear hx
  have HQD := Lib.hid hqd
  have HOK := Lib.hid (And.intro hok (And.intro hkinds hstart))
  have hbg := begin_calls 2 two ipa X1
  clear hqd hok hkinds hstart HI HQ
  go_wp2_with fail
  (with_reducible refine hbg.mono ?_)
  rintro e x3 ⟨rfl, hI3, hO3⟩
  obtain ⟨pb, hpb⟩ : ∃ pb, pb = X1.heap.size := ⟨_, rfl⟩
  rw [← hpb] at hI3 ⊢
  have HI3 := Lib.hid (And.intro hI3 (And.intro hO3 (And.intro hpb (show bf < pb ∧ b8 < pb ∧ b9 < pb by have := HB.out; omega))))
  clear hbg hI3 hO3 hpb kf qf zf hi1
  go_wp2
  refine wp_loopF [false, false, false, false, false, false, false, false, false, false, false, false, true, false, true, true, false, false, false, false, false, false, false, false, false, false, false, false, false, false, false, false, false, false, false, false, true, true, true, true, true, true, true, true, true, true, true, true, true, true, true, true, true, true, true] (fun f y => ∃ (m table : Nat) (v : Value) (L0 : List St) (kind : Int) (over : Bool), f 12 = .int .i64 (m : Nat) ∧ m ≤ 4 ∧ IsW y (pb + 1) pb 2 table ipa v L0 kind over ∧ Only (fun b => b = pb ∨ pb + 1 ≤ b) x3 y ∧
    (over = false → kind = 4 ∧ m = L0.length ∧ m ≤ 3 ∧ OnWay (rawM 40 wd) (okM 40) 2 ipa (4 - m) m table L0 Rr ∧ isF (f 15) = false) ∧ (over = true → Rr = (L0, kind) ∧ m = L0.length)) (fun f => 2 * (5 - (intOf (f 12)).toNat) + (bif isF (f 15) then 0 else 1)) ?start2 ?round2
  case start2 =>
    refine ⟨0, two, _, [], 4, _, rfl, by omega, HI3.out.1, Only.refl _ _, fun _ => ⟨rfl, rfl, by omega, HOK.out.2.2, rfl⟩, fun h => ?_⟩
    exact absurd h (by decide)
  case round2 =>
    intro f2 wq hrel J2 K2 hJ2 hM2
    dsimp only [mergeA, mergeL, Nat.reduceAdd]
    obtain ⟨m, table, v, L0, kind, over, h12, hm4, hI, hOn, hf, ht⟩ := hrel
    rw [h12]
    have H12 := Lib.hid h12
    obtain ⟨k1, q1, z1⟩ := of_block hI.hp
    have HI2 := Lib.hid (And.intro hI hOn)
    have HFT := Lib.hid (And.intro hf ht)
    have HOW : Hid (Old X1 wq) := Lib.hid (Only.to_below ((Only.of_below HI3.out.2.1).step hOn (fun b hb e => by have := HI3.out.2.2.1; omega)))
    have m4 : (m : Int) ≤ 4 := by omega
    clear h12 hm4 hI hOn hf ht
    cases over
    case true =>
      obtain ⟨hRe, hme⟩ := HFT.out.2 rfl
      clear HFT
      subst hRe
      have hqd := HQD.out
      have hok := HOK.out
      clear HQD HOK
      (try dsimp only at hqd)
      (try dsimp only at hok)
      have HQD := Lib.hid hqd
      have HOK := Lib.hid hok
      clear hqd hok
      obtain ⟨a3, c3, rfl, hl3, hm3', -, q3⟩ := own_value HI2.out.1.own
      have HOWN := Lib.hid (And.intro HI2.out.1.own q3)
      have HMN := Lib.hid hme
      clear hme hl3 hm3' q3
      go_upto_region 15 with (fail)
      clear k1 q1 z1
      refine wp_region_walked (S := Old wq) (by kernel_rfl) (by kernel_rfl) (old_drew (old_refl _)) ?_
      apply walked_cons
      · intro wS hS
        have HS := Lib.hid hS
        clear hS
        go_wp2
        exact ⟨rfl, rfl, HS.out⟩
      · rfl
      (try simp only [Act.put, List.setIfInBounds_toArray, List.set_cons_succ, List.set_cons_zero])
      apply walked_cons
      · intro wS hS
        have HS := Lib.hid hS
        clear hS
        go_wp2
        exact ⟨rfl, rfl, HS.out⟩
      · rfl
      (try simp only [Act.put, List.setIfInBounds_toArray, List.set_cons_succ, List.set_cons_zero])
      apply walked_cons
      · intro wS hS
        have HS := Lib.hid hS
        clear hS
        go_wp2
        exact ⟨rfl, rfl, HS.out⟩
      · rfl
      (try simp only [Act.put, List.setIfInBounds_toArray, List.set_cons_succ, List.set_cons_zero])
      apply walked_cons
      · intro wS hS
        obtain ⟨k9, -, -⟩ := of_block (keep_old hS HI2.out.1.hp)
        have HS := Lib.hid hS
        clear hS
        go_wp2
        exact ⟨rfl, rfl, HS.out⟩
      · rfl
      (try simp only [Act.put, List.setIfInBounds_toArray, List.set_cons_succ, List.set_cons_zero])
      apply walked_cons
      · intro wS hS
        have HS := Lib.hid hS
        clear hS
        go_wp2
        exact ⟨rfl, rfl, HS.out⟩
      · rfl
      (try simp only [Act.put, List.setIfInBounds_toArray, List.set_cons_succ, List.set_cons_zero])
      apply walked_cons
      · intro wS hS
        have HS := Lib.hid hS
        clear hS
        go_wp2
        exact ⟨rfl, rfl, HS.out⟩
      · rfl
      (try simp only [Act.put, List.setIfInBounds_toArray, List.set_cons_succ, List.set_cons_zero])
      apply walked_cons
      · intro wS hS
        have HS := Lib.hid hS
        clear hS
        go_wp2
        exact ⟨rfl, rfl, HS.out⟩
      · rfl
      (try simp only [Act.put, List.setIfInBounds_toArray, List.set_cons_succ, List.set_cons_zero])
      apply walked_cons
      · intro wS hS
        obtain ⟨k9, -, -⟩ := of_block (keep_old hS HI2.out.1.hp)
        have HS := Lib.hid hS
        clear hS
        go_wp2
        exact ⟨rfl, rfl, HS.out⟩
      · rfl
      (try simp only [Act.put, List.setIfInBounds_toArray, List.set_cons_succ, List.set_cons_zero])
      apply walked_cons
      · intro wS hS
        have HS := Lib.hid hS
        clear hS
        go_wp2
        exact ⟨rfl, rfl, HS.out⟩
      · rfl
      (try simp only [Act.put, List.setIfInBounds_toArray, List.set_cons_succ, List.set_cons_zero])
      apply walked_cons
      · intro wS hS
        have HS := Lib.hid hS
        clear hS
        go_wp2
        exact ⟨rfl, rfl, HS.out⟩
      · rfl
      (try simp only [Act.put, List.setIfInBounds_toArray, List.set_cons_succ, List.set_cons_zero])
      apply walked_nil
      intro wS hS
      have hOX := old_then HOW.out hS
      have HKX := Lib.hid (And.intro (keep_old hOX HK.out.2.1) (And.intro (keep_old hOX HK.out.2.2.1) (And.intro (keep_old hOX HK.out.2.2.2) (old_then HK.out.1 hOX))))
      have hcs0 := own_old HOWN.out.1 hS
      have HCS0 := Lib.hid hcs0
      clear hS hOX hcs0
      have hK0 : kind = 0 := HX.out.1
      have hK : ¬ kind = -1 := by rw [hK0]; decide
      have hal9 := HX.out.2
      clear HX
      have HAL9 := Lib.hid hal9
      clear hal9
      subst hK0
      have hn1 : 1 ≤ m := by
        have := HOK.out.1.some_ (show (0 : Int) ≠ -1 by decide)
        rw [HMN.out]; exact this
      obtain ⟨s, hs0, hs1, hs⟩ := last_mem (l := L0) (by rw [← HMN.out]; exact hn1)
      rw [← HMN.out] at hs
      obtain ⟨f1, f2', f3, f4⟩ := way_at HOK.out.1.way hs
      have hl4 : m ≤ 4 := by rw [HMN.out]; exact HOK.out.1.len
      obtain ⟨g1, rfl⟩ := HOWN.out.2 (by rw [← HMN.out]; omega)
      have hcs : ∀ (c : Nat) (u : Value), s.cells[c]? = some u → wS.cell? ⟨g1, (m - 1) * 9 + c, none⟩ = some u := fun c u hu => own_cell HCS0.out rfl _ (stCells_get L0 _ s c u hs hu)
      have HAL8 : Hid (allowsB s.d.r s.d.w s.d.x access = true) := Lib.hid (by rw [← hs1]; exact HAL9.out)
      have HQ7 : Hid (q = (if allowsB s.d.r s.d.w s.d.x access = false then (O0, ⟨2, 2, -1, ipa, sto⟩, m) else (⟨outN ipa s.lv s.d.k s.d.a / 4096, ipa / 4096, true, true, true, s.d.r, s.d.w, s.d.x⟩, F0, m))) := Lib.hid (by rw [HQD.out, HMN.out, ← hs1]; rfl)
      obtain ⟨lv, sat, sraw, ⟨dk, da, dr, dw, dx, dS⟩⟩ := s
      have hcs2 : ∀ (c : Nat) (u : Value), [Value.int .i64 (lv : Nat), .int .u64 (sat : Nat), .int .u64 (sraw : Nat), .int .i64 dk, .int .u64 (da : Nat), .bool dr, .bool dw, .bool dx, .int .i64 dS][c]? = some u → wS.cell? ⟨g1, (m - 1) * 9 + c, none⟩ = some u := hcs
      have hda : da < 18446744073709551616 := f4
      have HQ8 : Hid (q = (if allowsB dr dw dx access = false then (O0, ⟨2, 2, -1, ipa, sto⟩, m) else (⟨outN ipa lv dk da / 4096, ipa / 4096, true, true, true, dr, dw, dx⟩, F0, m))) := Lib.hid HQ7.out
      have HCS := Lib.hid hcs2
      have HDA := Lib.hid hda
      have hlen : L0.length = m := HMN.out.symm
      rw [hlen]
      have hn1' : ((m - 1 : Nat) : Int) = (m : Int) - 1 := by omega
      have n4 : (m : Int) ≤ 4 := by omega
      have hge : (0 : Int) ≤ (m : Int) - 1 := by omega
      have hlt : (m : Int) - 1 < m := by omega
      have htn : ((m : Int) - 1).toNat = m - 1 := by omega
      have HN1 := Lib.hid hn1'
      have HLEN := Lib.hid hlen
      clear hlen hn1 hs0 hs1 hs f1 f2' f3 f4 hl4 hcs HQ7 HQD hcs2 hda hK HOK
      go_upto_region 22 with (refine wpList_load_at rfl 54 _ rfl g1 ((m - 1) * 9) rfl [Value.int .i64 (lv : Nat), .int .u64 (sat : Nat), .int .u64 (sraw : Nat), .int .i64 dk, .int .u64 (da : Nat), .bool dr, .bool dw, .bool dx, .int .i64 dS] _ HCS.out Try.underlying54 rfl (by kernel_rfl) ?_)
      have hO3 := old_alloc (old_refl wS) (.cells #[Value.int .i64 (lv : Nat), .int .u64 (sat : Nat), .int .u64 (sraw : Nat), .int .i64 dk, .int .u64 (da : Nat), .bool dr, .bool dw, .bool dx, .int .i64 dS] 54)
      have hxb := new_block wS (.cells #[Value.int .i64 (lv : Nat), .int .u64 (sat : Nat), .int .u64 (sraw : Nat), .int .i64 dk, .int .u64 (da : Nat), .bool dr, .bool dw, .bool dx, .int .i64 dS] 54)
      generalize wS.alloc (.cells #[Value.int .i64 (lv : Nat), .int .u64 (sat : Nat), .int .u64 (sraw : Nat), .int .i64 dk, .int .u64 (da : Nat), .bool dr, .bool dw, .bool dx, .int .i64 dS] 54) = X3 at *
      obtain ⟨bl, hbl⟩ : ∃ bl, bl = wS.heap.size := ⟨_, rfl⟩
      rw [← hbl] at hxb ⊢
      have HBL : Hid (b8 < bl ∧ b9 < bl ∧ bf < bl) := Lib.hid (by have h1 := lt_of_block HKX.out.1; have h2 := lt_of_block HKX.out.2.1; have h3 := lt_of_block HKX.out.2.2.1; omega)
      have HK3 := Lib.hid (And.intro (keep_old hO3 HKX.out.1) (And.intro (keep_old hO3 HKX.out.2.1) (And.intro (keep_old hO3 HKX.out.2.2.1) (And.intro (old_then HKX.out.2.2.2 hO3) hxb))))
      obtain ⟨km, qm, zm⟩ := of_block hxb
      have HALL := Lib.hid (allows14_calls dr dw dx access)
      clear hO3 hbl HCS hn1' hge hlt htn HKX HCS0 hxb
      have hal : allowsB dr dw dx access = true := HAL8.out
      have hc := HALL.out X3
      rw [hal] at hc
      have HQ6 : Hid (q = (⟨outN ipa lv dk da / 4096, ipa / 4096, true, true, true, dr, dw, dx⟩, F0, m)) := Lib.hid (by rw [HQ8.out, if_neg (by rw [hal]; simp)])
      have hout := fun x => refOut_calls ipa HU.out.2.1 lv sat sraw dk da HDA.out dr dw dx dS x
      have hol : outN ipa lv dk da < 18446744073709551616 := by
        unfold outN; split
        · exact Nat.mod_lt _ (by decide)
        · decide
      obtain ⟨ou, hou⟩ : ∃ ou, outN ipa lv dk da = ou := ⟨_, rfl⟩
      rw [hou] at hout hol
      obtain ⟨OF, hOF⟩ : ∃ OF, ou / 4096 = OF := ⟨_, rfl⟩
      obtain ⟨OI, hOI⟩ : ∃ OI, ipa / 4096 = OI := ⟨_, rfl⟩
      have hoi : (ipa : Int) / 4096 = (OI : Int) := div_name hOI
      have hof : (ou : Int) / 4096 = (OF : Int) := div_name hOF
      have hofw : wrap64 (OF : Int) = (OF : Int) := (div_small hOF hol).1
      have hofu : IntKind.u64.wrap (OF : Int) = (OF : Int) := (div_small hOF hol).2
      have hoiu : IntKind.u64.wrap (OI : Int) = (OI : Int) := (div_small hOI HU.out.2.1).2
      have HQ9 : Hid (q = (⟨OF, OI, true, true, true, dr, dw, dx⟩, F0, m)) := Lib.hid (by rw [HQ6.out, hou, hOF, hOI])
      have HOUT := Lib.hid hout
      have HALLC := Lib.hid all14_calls
      clear hal hout hou HALL hol hOF hOI
      go_wp2_with fail
      (with_reducible refine hc.mono ?_)
      rintro e x4 ⟨rfl, hO4⟩
      have HKX := Lib.hid (And.intro (keep_old hO4 HK3.out.1) (And.intro (keep_old hO4 HK3.out.2.1) (And.intro (keep_old hO4 HK3.out.2.2.1) (And.intro (old_then HK3.out.2.2.2.1 hO4) (keep_old hO4 HK3.out.2.2.2.2)))))
      clear hO4 hc km qm zm
      go_upto_region 25 with (fail)
      obtain ⟨SQ, hSQ⟩ : ∃ SQ : Array Bool → World → Prop, SQ = (fun l9 y9 => FixM 14 b8 #[Value.int .i64 0, .int .u64 0, .bool false, .bool false, .bool false, .bool false, .bool false, .bool false] #[Value.int .i64 (OF : Nat), .int .u64 (OI : Nat), .bool true, .bool true, .bool true, .bool dr, .bool dw, .bool dx] 77 l9 y9 ∧ FixM 15 b9 #[Value.int .i64 0, .int .i64 0, .int .i64 0, .int .u64 0, .bool false] #[Value.int .i64 0, .int .i64 0, .int .i64 0, .int .u64 0, .bool false] 67 l9 y9 ∧ Only (fun b => b = b8 ∨ b = b9) x4 y9) := ⟨_, rfl⟩
      have HSQ := Lib.hid hSQ
      clear hSQ
      refine wp_region_staged (S := SQ) 17 (by kernel_rfl) (by kernel_rfl) (by kernel_rfl) (by decide) (by rw [HSQ.out]; exact ⟨fixM_start HKX.out.2.2.1, fixM_start HKX.out.2.1, only_drew (Only.refl _ _)⟩) ?_
      apply walkedS_cons
      · intro l9 wS hz hn hS
        rw [HSQ.out] at hS
        have hS9 := And.intro (fixM_other 0 (by decide) hS.1) (And.intro (fixM_other 0 (by decide) hS.2.1) hS.2.2)
        clear hS
        go_wp2
        exact ⟨rfl, rfl, by rw [HSQ.out]; exact hS9⟩
      · rfl
      (try simp only [Act.put, List.setIfInBounds_toArray, List.set_cons_succ, List.set_cons_zero])
      apply walkedS_cons
      · intro l9 wS hz hn hS
        rw [HSQ.out] at hS
        have hS9 := And.intro (fixM_other 1 (by decide) hS.1) (And.intro (fixM_other 1 (by decide) hS.2.1) hS.2.2)
        obtain ⟨k9, -, -⟩ := of_block (keep_only hS.2.2 (show ¬ (bl = b8 ∨ bl = b9) by have := HBL.out; omega) HKX.out.2.2.2.2)
        clear hS
        go_wp2
        exact ⟨rfl, rfl, by rw [HSQ.out]; exact hS9⟩
      · rfl
      (try simp only [Act.put, List.setIfInBounds_toArray, List.set_cons_succ, List.set_cons_zero])
      apply walkedS_cons
      · intro l9 wS hz hn hS
        rw [HSQ.out] at hS
        have hfin := fun y (hO : Old wS y) => And.intro (fixM_only (G0 := fun _ => False) 2 (by decide) hS.1 (Only.of_below hO) (fun f => f)) (And.intro (fixM_only (G0 := fun _ => False) 2 (by decide) hS.2.1 (Only.of_below hO) (fun f => f)) (hS.2.2.trans ((Only.of_below hO).mono fun b _ f => f.elim)))
        clear hS
        go_wp2_with fail
        (with_reducible refine (HOUT.out _).mono ?_)
        rintro e y ⟨rfl, hO⟩
        have hf := hfin y hO
        clear hfin hO
        go_wp2
        exact ⟨rfl, rfl, by rw [HSQ.out]; exact hf⟩
      · rfl
      (try simp only [Act.put, List.setIfInBounds_toArray, List.set_cons_succ, List.set_cons_zero])
      apply walkedS_cons
      · intro l9 wS hz hn hS
        rw [HSQ.out] at hS
        have hS9 := And.intro (fixM_other 3 (by decide) hS.1) (And.intro (fixM_other 3 (by decide) hS.2.1) hS.2.2)
        clear hS
        go_wp2
        exact ⟨rfl, rfl, by rw [HSQ.out]; exact hS9⟩
      · rfl
      (try simp only [Act.put, List.setIfInBounds_toArray, List.set_cons_succ, List.set_cons_zero])
      apply walkedS_cons
      · intro l9 wS hz hn hS
        rw [HSQ.out] at hS
        have hS9 := And.intro (fixM_other 4 (by decide) hS.1) (And.intro (fixM_other 4 (by decide) hS.2.1) hS.2.2)
        clear hS
        go_wp2
        exact ⟨rfl, rfl, by rw [HSQ.out]; exact hS9⟩
      · rfl
      (try simp only [Act.put, List.setIfInBounds_toArray, List.set_cons_succ, List.set_cons_zero])
      apply walkedS_cons
      · intro l9 wS hz hn hS
        rw [HSQ.out] at hS
        have hS9 := And.intro (fixM_other 5 (by decide) hS.1) (And.intro (fixM_other 5 (by decide) hS.2.1) hS.2.2)
        clear hS
        go_wp2
        exact ⟨rfl, rfl, by rw [HSQ.out]; exact hS9⟩
      · rfl
      (try simp only [Act.put, List.setIfInBounds_toArray, List.set_cons_succ, List.set_cons_zero])
      apply walkedS_cons
      · intro l9 wS hz hn hS
        rw [HSQ.out] at hS
        have hS9 := And.intro (fixM_other 6 (by decide) hS.1) (And.intro (fixM_other 6 (by decide) hS.2.1) hS.2.2)
        clear hS
        go_wp2
        exact ⟨rfl, rfl, by rw [HSQ.out]; exact hS9⟩
      · rfl
      (try simp only [Act.put, List.setIfInBounds_toArray, List.set_cons_succ, List.set_cons_zero])
      apply walkedS_cons
      · intro l9 wS hz hn hS
        rw [HSQ.out] at hS
        have hfin := fun y (hO : Old wS y) => And.intro (fixM_only (G0 := fun _ => False) 7 (by decide) hS.1 (Only.of_below hO) (fun f => f)) (And.intro (fixM_only (G0 := fun _ => False) 7 (by decide) hS.2.1 (Only.of_below hO) (fun f => f)) (hS.2.2.trans ((Only.of_below hO).mono fun b _ f => f.elim)))
        clear hS
        go_wp2_with fail
        (with_reducible refine (HALLC.out _).mono ?_)
        rintro e y ⟨rfl, hO⟩
        have hf := hfin y hO
        clear hfin hO
        go_wp2
        exact ⟨rfl, rfl, by rw [HSQ.out]; exact hf⟩
      · rfl
      (try simp only [Act.put, List.setIfInBounds_toArray, List.set_cons_succ, List.set_cons_zero])
      apply walkedS_cons
      · intro l9 wS hz hn hS
        rw [HSQ.out] at hS
        have hS9 := And.intro (fixM_other 8 (by decide) hS.1) (And.intro (fixM_other 8 (by decide) hS.2.1) hS.2.2)
        clear hS
        go_wp2
        exact ⟨rfl, rfl, by rw [HSQ.out]; exact hS9⟩
      · rfl
      (try simp only [Act.put, List.setIfInBounds_toArray, List.set_cons_succ, List.set_cons_zero])
      apply walkedS_cons
      · intro l9 wS hz hn hS
        rw [HSQ.out] at hS
        have hS9 := And.intro (fixM_other 9 (by decide) hS.1) (And.intro (fixM_other 9 (by decide) hS.2.1) hS.2.2)
        clear hS
        go_wp2
        exact ⟨rfl, rfl, by rw [HSQ.out]; exact hS9⟩
      · rfl
      (try simp only [Act.put, List.setIfInBounds_toArray, List.set_cons_succ, List.set_cons_zero])
      apply walkedS_cons
      · intro l9 wS hz hn hS
        rw [HSQ.out] at hS
        have hS9 := And.intro (fixM_other 10 (by decide) hS.1) (And.intro (fixM_other 10 (by decide) hS.2.1) hS.2.2)
        obtain ⟨k9, -, -⟩ := of_block (keep_only hS.2.2 (show ¬ (bl = b8 ∨ bl = b9) by have := HBL.out; omega) HKX.out.2.2.2.2)
        clear hS
        go_wp2
        exact ⟨rfl, rfl, by rw [HSQ.out]; exact hS9⟩
      · rfl
      (try simp only [Act.put, List.setIfInBounds_toArray, List.set_cons_succ, List.set_cons_zero])
      apply walkedS_cons
      · intro l9 wS hz hn hS
        rw [HSQ.out] at hS
        have hS9 := And.intro (fixM_other 11 (by decide) hS.1) (And.intro (fixM_other 11 (by decide) hS.2.1) hS.2.2)
        clear hS
        go_wp2
        exact ⟨rfl, rfl, by rw [HSQ.out]; exact hS9⟩
      · rfl
      (try simp only [Act.put, List.setIfInBounds_toArray, List.set_cons_succ, List.set_cons_zero])
      apply walkedS_cons
      · intro l9 wS hz hn hS
        rw [HSQ.out] at hS
        have hS9 := And.intro (fixM_other 12 (by decide) hS.1) (And.intro (fixM_other 12 (by decide) hS.2.1) hS.2.2)
        clear hS
        go_wp2
        exact ⟨rfl, rfl, by rw [HSQ.out]; exact hS9⟩
      · rfl
      (try simp only [Act.put, List.setIfInBounds_toArray, List.set_cons_succ, List.set_cons_zero])
      apply walkedS_cons
      · intro l9 wS hz hn hS
        rw [HSQ.out] at hS
        have hS9 := And.intro (fixM_other 13 (by decide) hS.1) (And.intro (fixM_other 13 (by decide) hS.2.1) hS.2.2)
        clear hS
        go_wp2
        exact ⟨rfl, rfl, by rw [HSQ.out]; exact hS9⟩
      · rfl
      (try simp only [Act.put, List.setIfInBounds_toArray, List.set_cons_succ, List.set_cons_zero])
      apply walkedS_cons
      · intro l9 wS hz hn hS
        rw [HSQ.out] at hS
        have hb9 := hS.1.blk
        rw [hn] at hb9
        have hd9 := And.intro (fixM_store hz (by decide) hS.1) (And.intro (fixM_only (G0 := fun b => b = b8) 14 (by decide) hS.2.1 ((Only.refl _ wS).putB (.cells #[Value.int .i64 (OF : Nat), .int .u64 (OI : Nat), .bool true, .bool true, .bool true, .bool dr, .bool dw, .bool dx] 77) (fun _ => rfl)) (Ne.symm HNE.out.1)) (hS.2.2.putB (.cells #[Value.int .i64 (OF : Nat), .int .u64 (OI : Nat), .bool true, .bool true, .bool true, .bool dr, .bool dw, .bool dx] 77) (fun _ => .inl rfl)))
        refine wpList_store_whole rfl 77 _ _ rfl b8 [Value.int .i64 (OF : Nat), .int .u64 (OI : Nat), .bool true, .bool true, .bool true, .bool dr, .bool dw, .bool dx] rfl rfl 77 _ hb9 (by kernel_rfl) rfl (by intro v hv; simp only [List.mem_cons, List.not_mem_nil, or_false] at hv; rcases hv with rfl | rfl | rfl | rfl | rfl | rfl | rfl | rfl <;> rfl) ?_
        exact ⟨rfl, rfl, by rw [HSQ.out]; exact hd9⟩
      · rfl
      (try simp only [Act.put, List.setIfInBounds_toArray, List.set_cons_succ, List.set_cons_zero])
      apply walkedS_cons
      · intro l9 wS hz hn hS
        rw [HSQ.out] at hS
        have hb9 := hS.2.1.blk
        rw [hn] at hb9
        have hd9 := And.intro (fixM_only (G0 := fun b => b = b9) 15 (by decide) hS.1 ((Only.refl _ wS).putB (.cells #[Value.int .i64 0, .int .i64 0, .int .i64 0, .int .u64 0, .bool false] 67) (fun _ => rfl)) HNE.out.1) (And.intro (fixM_store hz (by decide) hS.2.1) (hS.2.2.putB (.cells #[Value.int .i64 0, .int .i64 0, .int .i64 0, .int .u64 0, .bool false] 67) (fun _ => .inr rfl)))
        refine wpList_store_whole rfl 67 _ _ rfl b9 [Value.int .i64 0, .int .i64 0, .int .i64 0, .int .u64 0, .bool false] rfl rfl 67 _ hb9 (by kernel_rfl) rfl (by intro v hv; simp only [List.mem_cons, List.not_mem_nil, or_false] at hv; rcases hv with rfl | rfl | rfl | rfl | rfl <;> rfl) ?_
        exact ⟨rfl, rfl, by rw [HSQ.out]; exact hd9⟩
      · rfl
      (try simp only [Act.put, List.setIfInBounds_toArray, List.set_cons_succ, List.set_cons_zero])
      apply walkedS_cons
      · intro l9 wS hz hn hS
        rw [HSQ.out] at hS
        have hS9 := And.intro (fixM_other 16 (by decide) hS.1) (And.intro (fixM_other 16 (by decide) hS.2.1) hS.2.2)
        clear hS
        go_wp2
        exact ⟨rfl, rfl, by rw [HSQ.out]; exact hS9⟩
      · rfl
      (try simp only [Act.put, List.setIfInBounds_toArray, List.set_cons_succ, List.set_cons_zero])
      apply walkedS_nil
      intro l9 y hz hall hS
      have j14 := hall 14 (by decide)
      have j15 := hall 15 (by decide)
      rw [HSQ.out] at hS
      obtain ⟨t1, t2, t3⟩ := hS
      have r8 := t1.blk
      have r9 := t2.blk
      rw [j14] at r8
      rw [j15] at r9
      replace r8 : y.heap[b8]? = some (.cells #[Value.int .i64 (OF : Nat), .int .u64 (OI : Nat), .bool true, .bool true, .bool true, .bool dr, .bool dw, .bool dx] 77) := r8
      replace r9 : y.heap[b9]? = some (.cells #[Value.int .i64 0, .int .i64 0, .int .i64 0, .int .u64 0, .bool false] 67) := r9
      have hOw : Old w y := Only.to_below ((Only.of_below HKX.out.2.2.2.1).step t3 (fun b hb e => by have := HNE.out; omega))
      have HOwy := Lib.hid hOw
      obtain ⟨k8, -, -⟩ := of_block r8
      obtain ⟨k9, -, -⟩ := of_block r9
      clear hall hz l9 j14 j15 t1 t2 t3 hOw r8 r9
      show wpList _ _ _ [] _ _
      go_wp2
      refine bodyPost_ret (by simp [results, Try.results34, go_sem, k8, k9]; try rfl) rfl ?_
      rw [HQ9.out]
      exact ⟨rfl, HOwy.out⟩
    case false =>
      obtain ⟨hk4, hmL, hm3, hway, hnf⟩ := HFT.out.1 rfl
      subst hk4
      clear HFT
      obtain ⟨T, hT⟩ : ∃ T, atN table ipa L0.length = T := ⟨_, rfl⟩
      have hat := atW_calls HI2.out.1 HU.out.2.1 (by omega)
      rw [hT] at hat
      have hTl : T < 18446744073709551616 := by rw [← hT]; exact atN_lt _ _ _
      have hwd := fun y (hy : Old wq y) => HU.out.2.2.1 y (old_then HK.out.1 (old_then HOW.out hy)) T hTl
      obtain ⟨ok, hok⟩ : ∃ ok, okM 40 T = ok := ⟨_, rfl⟩
      obtain ⟨V, hV⟩ : ∃ V, rawM 40 wd T = V := ⟨_, rfl⟩
      have hVl : V < 18446744073709551616 := by rw [← hV]; exact HU.out.2.2.2 T
      rw [hok, hV] at hwd
      have HF := Lib.hid (And.intro hmL (And.intro hm3 (And.intro hway (And.intro hT (And.intro hok (And.intro hV (And.intro hVl hnf)))))))
      have HWD := Lib.hid hwd
      clear hmL hm3 hway hnf hT hTl hwd hok hV hVl
      go_wp2_with fail
      (with_reducible refine hat.mono ?_)
      rintro e y1 ⟨rfl, hO1⟩
      have hc := HWD.out y1 hO1
      have HO1 := Lib.hid hO1
      clear hat hO1 k1 q1 z1
      go_wp2_with fail
      (with_reducible refine hc.mono ?_)
      rintro e y2 ⟨rfl, hO2⟩
      have hO := old_then HO1.out hO2
      have HI3' := Lib.hid (And.intro (isW_old HI2.out.1 hO) (HI2.out.2.trans ((Only.of_below hO).mono fun b _ f => f.elim)))
      clear hc hO2 hO
      obtain ⟨hmL, hm3, hway, hT, hok, hV, hVl, hnf⟩ := HF.out
      have hl3 : L0.length ≤ 3 := by omega
      cases ok
      case false =>
        have hg := give_no HI3'.out.1 V
        have HE := Lib.hid (And.intro (refStep_kinds hway hmL hm3 (by rw [hT]; exact hok)) (And.intro hmL (And.intro hm3 hnf)))
        clear hmL hm3 hway hT hok hV hVl hl3 hnf HF HWD
        go_wp2_with fail
        (with_reducible refine hg.mono ?_)
        rintro e y3 ⟨rfl, hI1, hO1⟩
        have HY := Lib.hid (And.intro hI1 hO1)
        clear hI1 hO1 hg
        go_wp2
        refine Met.intro (hJ2 _ _ (by kernel_rfl) ?_ ?_)
        · exact ⟨m, table, v, L0, -1, true, rfl, by have := HE.out.2.2.1; omega, HY.out.1, HI3'.out.2.trans (HY.out.2.mono fun b _ e => .inl e), fun h => (by cases h), fun _ => ⟨HE.out.1, HE.out.2.1⟩⟩
        · rw [H12.out]
          show 2 * (5 - (intOf (Value.int .i64 (m : Int))).toNat) + 0 < 2 * (5 - (intOf (Value.int .i64 (m : Int))).toNat) + (bif isF (f2 15) then 0 else 1)
          rw [HE.out.2.2.2]
          simp
      case true =>
        have hg := give_yes HI3'.out.1 HU.out.2.1 hl3 V hVl
        have hend := doc_yes hway hmL hm3 T hT hV hok
        rw [hT] at hg
        have HE := Lib.hid (And.intro hend (And.intro hmL (And.intro hm3 hnf)))
        clear hmL hm3 hway hT hok hV hVl hl3 hnf hend HF HWD
        go_wp2_with fail
        (with_reducible refine hg.mono ?_)
        rintro e y3 ⟨rfl, ⟨v', hI1⟩, hO1⟩
        have HY := Lib.hid (And.intro hI1 hO1)
        clear hI1 hO1 hg
        go_wp2
        refine Met.intro (hJ2 _ _ (by kernel_rfl) ?_ ?_)
        · exact ⟨m + 1, _, v', _, _, _, by show Value.int .i64 ((m : Int) + 1) = _; simp, by have := HE.out.2.2.1; omega, HY.out.1, HI3'.out.2.trans HY.out.2, fun h => ⟨(HE.out.1.1 h).1, (HE.out.1.1 h).2.1, (HE.out.1.1 h).2.2.1, (HE.out.1.1 h).2.2.2, rfl⟩, fun h => ⟨(HE.out.1.2 h).1, by have h1 := (HE.out.1.2 h); rw [h1.1] at h1; exact h1.2⟩⟩
        · rw [H12.out]
          exact docMu (m : Int) ((m : Int) + 1) (by omega) (by omega) (by have := HE.out.2.2.1; omega) _ _
end Go.Proofs.Ytlbehhbicmmdoaa
namespace Go.Proofs.Ytlbehhbicmmdoaa
set_option linter.unusedVariables false
set_option linter.unusedSimpArgs false
open Go.RowKit
theorem docSecond_calls {w : World} {dm : Nat} {pgs : Nat → List Nat} {wd : Nat → Nat} (hD : DocM w dm 40 pgs) (hw : ∀ a, okM 40 a = true → getN (pgs (a / 4096)) (a % 4096) 8 = wd a) (hraw : ∀ a, rawM 40 wd a < 18446744073709551616) (two ipa : Nat) (htwo : two < 18446744073709551616) (hipa : ipa < 18446744073709551616) (access : Int) :
    Calls Try.prog 34 #[.pointer (some ⟨dm, 0, none⟩), .int .u64 (two : Nat), .int .u64 (ipa : Nat), .int .i64 access] w (RetDoc w (secondN (rawM 40 wd) (okM 40) two ipa access)) := by
  by_cases hi : 1099511627776 ≤ ipa
  · exact docSecond_far hD hw hraw two ipa htwo hipa access hi
  · by_cases h1 : (walkN (rawM 40 wd) (okM 40) 2 ipa 4 0 two).2 = -1
    · exact docSecond_bad hD hw hraw two ipa htwo hipa access hi h1
    · by_cases h0 : (walkN (rawM 40 wd) (okM 40) 2 ipa 4 0 two).2 = 0
      · cases ha : allowsB (lastN (walkN (rawM 40 wd) (okM 40) 2 ipa 4 0 two).1).d.r (lastN (walkN (rawM 40 wd) (okM 40) 2 ipa 4 0 two).1).d.w (lastN (walkN (rawM 40 wd) (okM 40) 2 ipa 4 0 two).1).d.x access with
        | false => exact docSecond_deny hD hw hraw two ipa htwo hipa access hi ⟨h0, ha⟩
        | true => exact docSecond_let hD hw hraw two ipa htwo hipa access hi ⟨h0, ha⟩
      · exact docSecond_kind hD hw hraw two ipa htwo hipa access hi ⟨h1, h0⟩
end Go.Proofs.Ytlbehhbicmmdoaa
namespace Go.Proofs.Ytlbehhbicmmdoaa
set_option linter.unusedVariables false
set_option linter.unusedSimpArgs false
open Go.RowKit
theorem nest_size {raw : Nat → Nat} {ok : Nat → Bool} {two root va : Nat} {on : Bool} {access : Int} (h : 281474976710656 ≤ va) : nestN raw ok two on root va access = (O0, ⟨1, 3, -1, va, decide (access = 2)⟩, 0) := if_pos h
theorem nest_off9 {raw : Nat → Nat} {ok : Nat → Bool} {two root va : Nat} {access : Int} (h : ¬ 281474976710656 ≤ va) : nestN raw ok two false root va access = secondN raw ok two va access := by
  unfold nestN
  exact (if_neg h).trans (if_pos rfl)
theorem nest_root {raw : Nat → Nat} {ok : Nat → Bool} {two root va : Nat} {access : Int} (h : ¬ 281474976710656 ≤ va) (hr : root % 4096 ≠ 0 ∨ 1099511627776 ≤ root) : nestN raw ok two true root va access = (O0, ⟨1, 4, -1, va, decide (access = 2)⟩, 0) := by
  unfold nestN
  exact (if_neg h).trans ((if_neg (by simp)).trans (if_pos hr))
set_option maxHeartbeats 16000000 in
set_option maxRecDepth 100000 in
theorem docWalk_size {w : World} {dm : Nat} {pgs : Nat → List Nat} {wd : Nat → Nat} (hD : DocM w dm 40 pgs) (hw : ∀ a, okM 40 a = true → getN (pgs (a / 4096)) (a % 4096) 8 = wd a) (hraw : ∀ a, rawM 40 wd a < 18446744073709551616) (two root va : Nat) (htwo : two < 18446744073709551616) (hroot : root < 18446744073709551616) (hva : va < 18446744073709551616) (on : Bool) (access : Int) (hi : 281474976710656 ≤ va) :
    Calls Try.prog 37 #[.pointer (some ⟨dm, 0, none⟩), .int .u64 (two : Nat), .bool on, .int .u64 (root : Nat), .int .u64 (va : Nat), .int .i64 access] w (RetDoc w (nestN (rawM 40 wd) (okM 40) two on root va access)) := by
  obtain ⟨sto, hsto⟩ : ∃ sto, (access == 2) = sto := ⟨_, rfl⟩
  have hsd : decide (access = 2) = sto := by rw [← hsto]; rfl
  have HSD := Lib.hid hsd
  obtain ⟨q, hq⟩ : ∃ q, nestN (rawM 40 wd) (okM 40) two on root va access = q := ⟨_, rfl⟩
  rw [hq]
  have HQ := Lib.hid hq
  have hsec : ∀ y, Old w y → ∀ a, a < 18446744073709551616 → ∀ ac, Calls Try.prog 34 #[.pointer (some ⟨dm, 0, none⟩), .int .u64 (two : Nat), .int .u64 (a : Nat), .int .i64 ac] y (RetDoc y (secondN (rawM 40 wd) (okM 40) two a ac)) := fun y hy a ha ac => docSecond_calls (docM_old hD hy) hw hraw two a htwo ha ac
  have hwc : ∀ y, Old w y → ∀ a, a < 18446744073709551616 → Calls Try.prog 61 #[.pointer (some ⟨dm, 0, none⟩), .int .u64 (a : Nat)] y (RetB y (.tuple #[.int .u64 (rawM 40 wd a : Nat), .bool (okM 40 a)])) := fun y hy a ha => word_calls (docM_old hD hy) hw a ha
  have HU := Lib.hid (And.intro htwo (And.intro hroot (And.intro hva (And.intro hsec (And.intro hwc hraw)))))
  clear hD hw hraw hsd hq hsec hwc htwo hroot hva
  go_enter Try.func37, Try.ntmps37
  go_upto_region 2 with (fail)
  have hH := holds_new #[Value.int .i64 0, .int .i64 0, .int .i64 0, .int .u64 0, .bool false] 67 (holds_new #[Value.int .i64 0, .int .u64 0, .bool false, .bool false, .bool false, .bool false, .bool false, .bool false] 77 (holds_nil w))
  simp only [World.size_alloc] at hH
  have hsz : ((w.alloc (.cells #[Value.int .i64 0, .int .u64 0, .bool false, .bool false, .bool false, .bool false, .bool false, .bool false] 77)).alloc (.cells #[Value.int .i64 0, .int .i64 0, .int .i64 0, .int .u64 0, .bool false] 67)).heap.size = w.heap.size + 1 + 1 := by simp only [World.size_alloc]
  generalize ((w.alloc (.cells #[Value.int .i64 0, .int .u64 0, .bool false, .bool false, .bool false, .bool false, .bool false, .bool false] 77)).alloc (.cells #[Value.int .i64 0, .int .i64 0, .int .i64 0, .int .u64 0, .bool false] 67)) = X1 at *
  obtain ⟨b9, hb9⟩ : ∃ b9, b9 = w.heap.size + 1 := ⟨_, rfl⟩
  obtain ⟨b8, hb8⟩ : ∃ b8, b8 = w.heap.size := ⟨_, rfl⟩
  rw [← hb9, ← hb8] at hH
  rw [← hb9, ← hb8]
  have HB := Lib.hid (And.intro hb8 (And.intro hb9 hsz))
  have HNE : Hid (b8 ≠ b9 ∧ w.heap.size ≤ b8 ∧ w.heap.size ≤ b9) := Lib.hid (by omega)
  obtain ⟨hO, hK9, hK8, -⟩ := id hH
  have HK := Lib.hid (And.intro hO (And.intro hK9 hK8))
  clear hb8 hb9 hsz hH hO hK9 hK8
  have hi1 : decide ((281474976710656 : Int) ≤ (va : Int)) = true := decide_eq_true (by omega)
  have HQ6 : Hid (q = (O0, ⟨1, 3, -1, va, sto⟩, 0)) := Lib.hid (by rw [← HQ.out, ← HSD.out]; exact nest_size hi)
  clear hi
  go_wp2_with (first | (refine wpList_store_whole rfl 77 _ _ rfl b8 [Value.int .i64 0, .int .u64 0, .bool false, .bool false, .bool false, .bool false, .bool false, .bool false] rfl rfl 77 _ HK.out.2.2 (by kernel_rfl) rfl (by intro v hv; simp only [List.mem_cons, List.not_mem_nil, or_false] at hv; rcases hv with rfl | rfl | rfl | rfl | rfl | rfl | rfl | rfl <;> rfl) ?_) | (refine wpList_store_whole rfl 67 _ _ rfl b9 [Value.int .i64 1, .int .i64 3, .int .i64 (-1), .int .u64 (va : Nat), .bool sto] rfl rfl 67 _ ((putB_other _ HNE.out.1).trans HK.out.2.1) (by kernel_rfl) rfl (by intro v hv; simp only [List.mem_cons, List.not_mem_nil, or_false] at hv; rcases hv with rfl | rfl | rfl | rfl | rfl <;> rfl) ?_))
  have r8 : (putB (putB X1 b8 (.cells #[Value.int .i64 0, .int .u64 0, .bool false, .bool false, .bool false, .bool false, .bool false, .bool false] 77)) b9 (.cells #[Value.int .i64 1, .int .i64 3, .int .i64 (-1), .int .u64 (va : Nat), .bool sto] 67)).heap[b8]? = some (.cells #[Value.int .i64 0, .int .u64 0, .bool false, .bool false, .bool false, .bool false, .bool false, .bool false] 77) := by rw [putB_other _ (Ne.symm HNE.out.1)]; exact putB_same _ (lt_of_block HK.out.2.2)
  have r9 : (putB (putB X1 b8 (.cells #[Value.int .i64 0, .int .u64 0, .bool false, .bool false, .bool false, .bool false, .bool false, .bool false] 77)) b9 (.cells #[Value.int .i64 1, .int .i64 3, .int .i64 (-1), .int .u64 (va : Nat), .bool sto] 67)).heap[b9]? = some (.cells #[Value.int .i64 1, .int .i64 3, .int .i64 (-1), .int .u64 (va : Nat), .bool sto] 67) := putB_same _ (by rw [putB_size]; exact lt_of_block HK.out.2.1)
  obtain ⟨k8, -, -⟩ := of_block r8
  obtain ⟨k9, -, -⟩ := of_block r9
  refine bodyPost_ret (by simp [results, Try.results37, go_sem, k8, k9]; try rfl) rfl ?_
  rw [HQ6.out]
  exact ⟨rfl, old_put (old_put HK.out.1 _ HNE.out.2.1) _ HNE.out.2.2⟩
set_option maxHeartbeats 16000000 in
set_option maxRecDepth 100000 in
theorem docWalk_off {w : World} {dm : Nat} {pgs : Nat → List Nat} {wd : Nat → Nat} (hD : DocM w dm 40 pgs) (hw : ∀ a, okM 40 a = true → getN (pgs (a / 4096)) (a % 4096) 8 = wd a) (hraw : ∀ a, rawM 40 wd a < 18446744073709551616) (two root va : Nat) (htwo : two < 18446744073709551616) (hroot : root < 18446744073709551616) (hva : va < 18446744073709551616) (access : Int) (hi : ¬ 281474976710656 ≤ va) :
    Calls Try.prog 37 #[.pointer (some ⟨dm, 0, none⟩), .int .u64 (two : Nat), .bool false, .int .u64 (root : Nat), .int .u64 (va : Nat), .int .i64 access] w (RetDoc w (nestN (rawM 40 wd) (okM 40) two false root va access)) := by
  obtain ⟨sto, hsto⟩ : ∃ sto, (access == 2) = sto := ⟨_, rfl⟩
  have hsd : decide (access = 2) = sto := by rw [← hsto]; rfl
  have HSD := Lib.hid hsd
  obtain ⟨q, hq⟩ : ∃ q, nestN (rawM 40 wd) (okM 40) two false root va access = q := ⟨_, rfl⟩
  rw [hq]
  have HQ := Lib.hid hq
  have hsec : ∀ y, Old w y → ∀ a, a < 18446744073709551616 → ∀ ac, Calls Try.prog 34 #[.pointer (some ⟨dm, 0, none⟩), .int .u64 (two : Nat), .int .u64 (a : Nat), .int .i64 ac] y (RetDoc y (secondN (rawM 40 wd) (okM 40) two a ac)) := fun y hy a ha ac => docSecond_calls (docM_old hD hy) hw hraw two a htwo ha ac
  have hwc : ∀ y, Old w y → ∀ a, a < 18446744073709551616 → Calls Try.prog 61 #[.pointer (some ⟨dm, 0, none⟩), .int .u64 (a : Nat)] y (RetB y (.tuple #[.int .u64 (rawM 40 wd a : Nat), .bool (okM 40 a)])) := fun y hy a ha => word_calls (docM_old hD hy) hw a ha
  have HU := Lib.hid (And.intro htwo (And.intro hroot (And.intro hva (And.intro hsec (And.intro hwc hraw)))))
  clear hD hw hraw hsd hq hsec hwc htwo hroot hva
  go_enter Try.func37, Try.ntmps37
  go_upto_region 2 with (fail)
  have hH := holds_new #[Value.int .i64 0, .int .i64 0, .int .i64 0, .int .u64 0, .bool false] 67 (holds_new #[Value.int .i64 0, .int .u64 0, .bool false, .bool false, .bool false, .bool false, .bool false, .bool false] 77 (holds_nil w))
  simp only [World.size_alloc] at hH
  have hsz : ((w.alloc (.cells #[Value.int .i64 0, .int .u64 0, .bool false, .bool false, .bool false, .bool false, .bool false, .bool false] 77)).alloc (.cells #[Value.int .i64 0, .int .i64 0, .int .i64 0, .int .u64 0, .bool false] 67)).heap.size = w.heap.size + 1 + 1 := by simp only [World.size_alloc]
  generalize ((w.alloc (.cells #[Value.int .i64 0, .int .u64 0, .bool false, .bool false, .bool false, .bool false, .bool false, .bool false] 77)).alloc (.cells #[Value.int .i64 0, .int .i64 0, .int .i64 0, .int .u64 0, .bool false] 67)) = X1 at *
  obtain ⟨b9, hb9⟩ : ∃ b9, b9 = w.heap.size + 1 := ⟨_, rfl⟩
  obtain ⟨b8, hb8⟩ : ∃ b8, b8 = w.heap.size := ⟨_, rfl⟩
  rw [← hb9, ← hb8] at hH
  rw [← hb9, ← hb8]
  have HB := Lib.hid (And.intro hb8 (And.intro hb9 hsz))
  have HNE : Hid (b8 ≠ b9 ∧ w.heap.size ≤ b8 ∧ w.heap.size ≤ b9) := Lib.hid (by omega)
  obtain ⟨hO, hK9, hK8, -⟩ := id hH
  have HK := Lib.hid (And.intro hO (And.intro hK9 hK8))
  clear hb8 hb9 hsz hH hO hK9 hK8
  have hi1 : decide ((281474976710656 : Int) ≤ (va : Int)) = false := decide_eq_false (by omega)
  have hq2 := HQ.out
  rw [nest_off9 hi] at hq2
  have hc := HU.out.2.2.2.1 X1 HK.out.1 va HU.out.2.2.1 access
  rw [hq2] at hc
  obtain ⟨⟨ofr, oip, o1, o2, o3, o4, o5, o6⟩, ⟨fst, fk, flv, fad, fsto⟩, nq⟩ := q
  clear hi hq2 HQ
  go_wp2_with fail
  (with_reducible refine hc.mono ?_)
  rintro e y1 ⟨rfl, hO⟩
  have K8 := keep_old hO HK.out.2.2
  have K9 := keep_old hO HK.out.2.1
  have HO1 := Lib.hid (old_then HK.out.1 hO)
  have HKY := Lib.hid (And.intro K8 K9)
  clear hc hO K8 K9
  dsimp only [O8.cells, F5.cells]
  go_wp2_with (first | (refine wpList_store_whole rfl 77 _ _ rfl b8 [Value.int .i64 (ofr : Nat), .int .u64 (oip : Nat), .bool o1, .bool o2, .bool o3, .bool o4, .bool o5, .bool o6] rfl rfl 77 _ HKY.out.1 (by kernel_rfl) rfl (by intro v hv; simp only [List.mem_cons, List.not_mem_nil, or_false] at hv; rcases hv with rfl | rfl | rfl | rfl | rfl | rfl | rfl | rfl <;> rfl) ?_) | (refine wpList_store_whole rfl 67 _ _ rfl b9 [Value.int .i64 fst, .int .i64 fk, .int .i64 flv, .int .u64 (fad : Nat), .bool fsto] rfl rfl 67 _ ((putB_other _ HNE.out.1).trans HKY.out.2) (by kernel_rfl) rfl (by intro v hv; simp only [List.mem_cons, List.not_mem_nil, or_false] at hv; rcases hv with rfl | rfl | rfl | rfl | rfl <;> rfl) ?_))
  have r8 : (putB (putB y1 b8 (.cells #[Value.int .i64 (ofr : Nat), .int .u64 (oip : Nat), .bool o1, .bool o2, .bool o3, .bool o4, .bool o5, .bool o6] 77)) b9 (.cells #[Value.int .i64 fst, .int .i64 fk, .int .i64 flv, .int .u64 (fad : Nat), .bool fsto] 67)).heap[b8]? = some (.cells #[Value.int .i64 (ofr : Nat), .int .u64 (oip : Nat), .bool o1, .bool o2, .bool o3, .bool o4, .bool o5, .bool o6] 77) := by rw [putB_other _ (Ne.symm HNE.out.1)]; exact putB_same _ (lt_of_block HKY.out.1)
  have r9 : (putB (putB y1 b8 (.cells #[Value.int .i64 (ofr : Nat), .int .u64 (oip : Nat), .bool o1, .bool o2, .bool o3, .bool o4, .bool o5, .bool o6] 77)) b9 (.cells #[Value.int .i64 fst, .int .i64 fk, .int .i64 flv, .int .u64 (fad : Nat), .bool fsto] 67)).heap[b9]? = some (.cells #[Value.int .i64 fst, .int .i64 fk, .int .i64 flv, .int .u64 (fad : Nat), .bool fsto] 67) := putB_same _ (by rw [putB_size]; exact lt_of_block HKY.out.2)
  obtain ⟨k8, -, -⟩ := of_block r8
  obtain ⟨k9, -, -⟩ := of_block r9
  refine bodyPost_ret (by simp [results, Try.results37, go_sem, k8, k9]; try rfl) rfl ?_
  exact ⟨rfl, old_put (old_put HO1.out _ HNE.out.2.1) _ HNE.out.2.2⟩
set_option maxHeartbeats 16000000 in
set_option maxRecDepth 100000 in
theorem docWalk_root {w : World} {dm : Nat} {pgs : Nat → List Nat} {wd : Nat → Nat} (hD : DocM w dm 40 pgs) (hw : ∀ a, okM 40 a = true → getN (pgs (a / 4096)) (a % 4096) 8 = wd a) (hraw : ∀ a, rawM 40 wd a < 18446744073709551616) (two root va : Nat) (htwo : two < 18446744073709551616) (hroot : root < 18446744073709551616) (hva : va < 18446744073709551616) (access : Int) (hi : ¬ 281474976710656 ≤ va) (hr : root % 4096 ≠ 0 ∨ 1099511627776 ≤ root) :
    Calls Try.prog 37 #[.pointer (some ⟨dm, 0, none⟩), .int .u64 (two : Nat), .bool true, .int .u64 (root : Nat), .int .u64 (va : Nat), .int .i64 access] w (RetDoc w (nestN (rawM 40 wd) (okM 40) two true root va access)) := by
  obtain ⟨sto, hsto⟩ : ∃ sto, (access == 2) = sto := ⟨_, rfl⟩
  have hsd : decide (access = 2) = sto := by rw [← hsto]; rfl
  have HSD := Lib.hid hsd
  obtain ⟨q, hq⟩ : ∃ q, nestN (rawM 40 wd) (okM 40) two true root va access = q := ⟨_, rfl⟩
  rw [hq]
  have HQ := Lib.hid hq
  have hsec : ∀ y, Old w y → ∀ a, a < 18446744073709551616 → ∀ ac, Calls Try.prog 34 #[.pointer (some ⟨dm, 0, none⟩), .int .u64 (two : Nat), .int .u64 (a : Nat), .int .i64 ac] y (RetDoc y (secondN (rawM 40 wd) (okM 40) two a ac)) := fun y hy a ha ac => docSecond_calls (docM_old hD hy) hw hraw two a htwo ha ac
  have hwc : ∀ y, Old w y → ∀ a, a < 18446744073709551616 → Calls Try.prog 61 #[.pointer (some ⟨dm, 0, none⟩), .int .u64 (a : Nat)] y (RetB y (.tuple #[.int .u64 (rawM 40 wd a : Nat), .bool (okM 40 a)])) := fun y hy a ha => word_calls (docM_old hD hy) hw a ha
  have HU := Lib.hid (And.intro htwo (And.intro hroot (And.intro hva (And.intro hsec (And.intro hwc hraw)))))
  clear hD hw hraw hsd hq hsec hwc htwo hroot hva
  go_enter Try.func37, Try.ntmps37
  go_upto_region 2 with (fail)
  have hH := holds_new #[Value.int .i64 0, .int .i64 0, .int .i64 0, .int .u64 0, .bool false] 67 (holds_new #[Value.int .i64 0, .int .u64 0, .bool false, .bool false, .bool false, .bool false, .bool false, .bool false] 77 (holds_nil w))
  simp only [World.size_alloc] at hH
  have hsz : ((w.alloc (.cells #[Value.int .i64 0, .int .u64 0, .bool false, .bool false, .bool false, .bool false, .bool false, .bool false] 77)).alloc (.cells #[Value.int .i64 0, .int .i64 0, .int .i64 0, .int .u64 0, .bool false] 67)).heap.size = w.heap.size + 1 + 1 := by simp only [World.size_alloc]
  generalize ((w.alloc (.cells #[Value.int .i64 0, .int .u64 0, .bool false, .bool false, .bool false, .bool false, .bool false, .bool false] 77)).alloc (.cells #[Value.int .i64 0, .int .i64 0, .int .i64 0, .int .u64 0, .bool false] 67)) = X1 at *
  obtain ⟨b9, hb9⟩ : ∃ b9, b9 = w.heap.size + 1 := ⟨_, rfl⟩
  obtain ⟨b8, hb8⟩ : ∃ b8, b8 = w.heap.size := ⟨_, rfl⟩
  rw [← hb9, ← hb8] at hH
  rw [← hb9, ← hb8]
  have HB := Lib.hid (And.intro hb8 (And.intro hb9 hsz))
  have HNE : Hid (b8 ≠ b9 ∧ w.heap.size ≤ b8 ∧ w.heap.size ≤ b9) := Lib.hid (by omega)
  obtain ⟨hO, hK9, hK8, -⟩ := id hH
  have HK := Lib.hid (And.intro hO (And.intro hK9 hK8))
  clear hb8 hb9 hsz hH hO hK9 hK8
  have hi1 : decide ((281474976710656 : Int) ≤ (va : Int)) = false := decide_eq_false (by omega)
  have HQ6 : Hid (q = (O0, ⟨1, 4, -1, va, sto⟩, 0)) := Lib.hid (by rw [← HQ.out, ← HSD.out]; exact nest_root hi hr)
  clear hi
  by_cases hr0 : root % 4096 = 0
  · have d1 : ((root : Int) % 4096 != 0) = false := by simp; omega
    have d2 : decide ((1099511627776 : Int) ≤ (root : Int)) = true := decide_eq_true (by omega)
    clear hr hr0
    go_wp2_with (first | (refine wpList_store_whole rfl 77 _ _ rfl b8 [Value.int .i64 0, .int .u64 0, .bool false, .bool false, .bool false, .bool false, .bool false, .bool false] rfl rfl 77 _ HK.out.2.2 (by kernel_rfl) rfl (by intro v hv; simp only [List.mem_cons, List.not_mem_nil, or_false] at hv; rcases hv with rfl | rfl | rfl | rfl | rfl | rfl | rfl | rfl <;> rfl) ?_) | (refine wpList_store_whole rfl 67 _ _ rfl b9 [Value.int .i64 1, .int .i64 4, .int .i64 (-1), .int .u64 (va : Nat), .bool sto] rfl rfl 67 _ ((putB_other _ HNE.out.1).trans HK.out.2.1) (by kernel_rfl) rfl (by intro v hv; simp only [List.mem_cons, List.not_mem_nil, or_false] at hv; rcases hv with rfl | rfl | rfl | rfl | rfl <;> rfl) ?_))
    have r8 : (putB (putB X1 b8 (.cells #[Value.int .i64 0, .int .u64 0, .bool false, .bool false, .bool false, .bool false, .bool false, .bool false] 77)) b9 (.cells #[Value.int .i64 1, .int .i64 4, .int .i64 (-1), .int .u64 (va : Nat), .bool sto] 67)).heap[b8]? = some (.cells #[Value.int .i64 0, .int .u64 0, .bool false, .bool false, .bool false, .bool false, .bool false, .bool false] 77) := by rw [putB_other _ (Ne.symm HNE.out.1)]; exact putB_same _ (lt_of_block HK.out.2.2)
    have r9 : (putB (putB X1 b8 (.cells #[Value.int .i64 0, .int .u64 0, .bool false, .bool false, .bool false, .bool false, .bool false, .bool false] 77)) b9 (.cells #[Value.int .i64 1, .int .i64 4, .int .i64 (-1), .int .u64 (va : Nat), .bool sto] 67)).heap[b9]? = some (.cells #[Value.int .i64 1, .int .i64 4, .int .i64 (-1), .int .u64 (va : Nat), .bool sto] 67) := putB_same _ (by rw [putB_size]; exact lt_of_block HK.out.2.1)
    obtain ⟨k8, -, -⟩ := of_block r8
    obtain ⟨k9, -, -⟩ := of_block r9
    refine bodyPost_ret (by simp [results, Try.results37, go_sem, k8, k9]; try rfl) rfl ?_
    rw [HQ6.out]
    exact ⟨rfl, old_put (old_put HK.out.1 _ HNE.out.2.1) _ HNE.out.2.2⟩
  · have d1 : ((root : Int) % 4096 != 0) = true := by simp; omega
    clear hr hr0
    go_wp2_with (first | (refine wpList_store_whole rfl 77 _ _ rfl b8 [Value.int .i64 0, .int .u64 0, .bool false, .bool false, .bool false, .bool false, .bool false, .bool false] rfl rfl 77 _ HK.out.2.2 (by kernel_rfl) rfl (by intro v hv; simp only [List.mem_cons, List.not_mem_nil, or_false] at hv; rcases hv with rfl | rfl | rfl | rfl | rfl | rfl | rfl | rfl <;> rfl) ?_) | (refine wpList_store_whole rfl 67 _ _ rfl b9 [Value.int .i64 1, .int .i64 4, .int .i64 (-1), .int .u64 (va : Nat), .bool sto] rfl rfl 67 _ ((putB_other _ HNE.out.1).trans HK.out.2.1) (by kernel_rfl) rfl (by intro v hv; simp only [List.mem_cons, List.not_mem_nil, or_false] at hv; rcases hv with rfl | rfl | rfl | rfl | rfl <;> rfl) ?_))
    have r8 : (putB (putB X1 b8 (.cells #[Value.int .i64 0, .int .u64 0, .bool false, .bool false, .bool false, .bool false, .bool false, .bool false] 77)) b9 (.cells #[Value.int .i64 1, .int .i64 4, .int .i64 (-1), .int .u64 (va : Nat), .bool sto] 67)).heap[b8]? = some (.cells #[Value.int .i64 0, .int .u64 0, .bool false, .bool false, .bool false, .bool false, .bool false, .bool false] 77) := by rw [putB_other _ (Ne.symm HNE.out.1)]; exact putB_same _ (lt_of_block HK.out.2.2)
    have r9 : (putB (putB X1 b8 (.cells #[Value.int .i64 0, .int .u64 0, .bool false, .bool false, .bool false, .bool false, .bool false, .bool false] 77)) b9 (.cells #[Value.int .i64 1, .int .i64 4, .int .i64 (-1), .int .u64 (va : Nat), .bool sto] 67)).heap[b9]? = some (.cells #[Value.int .i64 1, .int .i64 4, .int .i64 (-1), .int .u64 (va : Nat), .bool sto] 67) := putB_same _ (by rw [putB_size]; exact lt_of_block HK.out.2.1)
    obtain ⟨k8, -, -⟩ := of_block r8
    obtain ⟨k9, -, -⟩ := of_block r9
    refine bodyPost_ret (by simp [results, Try.results37, go_sem, k8, k9]; try rfl) rfl ?_
    rw [HQ6.out]
    exact ⟨rfl, old_put (old_put HK.out.1 _ HNE.out.2.1) _ HNE.out.2.2⟩
end Go.Proofs.Ytlbehhbicmmdoaa
