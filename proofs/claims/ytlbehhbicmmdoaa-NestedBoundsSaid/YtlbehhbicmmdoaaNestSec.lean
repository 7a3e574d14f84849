/- The contract of nested.Second. -/
import Derived.Test.YtlbehhbicmmdoaaNestAll
import Derived.Test.YtlbehhbicmmdoaaFreeAll
import Derived.Test.YtlbehhbicmmdoaaDescDec
namespace Go.Proofs.Ytlbehhbicmmdoaa
set_option linter.unusedVariables false
set_option linter.unusedSimpArgs false
open Go.RowKit

/-- What Second tells. -/
def RetSec (w : World) (X : Nat → Prop) (p frames : Nat) (wd : Nat → Nat) (N : Nat) (q : O8 × F5 × Nat) (e : Ending) (y : World) : Prop :=
  e = .returned (.tuple #[.agg q.1.cells, .agg q.2.1.cells, .int .i64 (q.2.2 : Nat)]) ∧ IsMemW y X p frames wd N ∧ Only (fun b => ¬ X b) w y
theorem retSec_only {w y : World} {X : Nat → Prop} {p frames : Nat} {wd : Nat → Nat} {N n0 : Nat} {G : Nat → Prop} (hn : n0 = w.heap.size) (h : IsMemW y (fun b => X b ∨ n0 ≤ b) p frames wd N) (ho : Only G w y) (hG : ∀ b, G b → ¬ X b ∨ n0 ≤ b) :
    IsMemW y X p frames wd N ∧ Only (fun b => ¬ X b) w y :=
  ⟨memW_more h (fun b hb => .inl (.inl hb)), ho.mono fun b hb g => (hG b g).elim id (fun e => by omega)⟩
theorem only_putB2 {G : Nat → Prop} {w x : World} {b1 b2 : Nat} {o1 o2 : Obj} (h : Only G w x) (h1 : w.heap.size ≤ b1) (h2 : w.heap.size ≤ b2) : Only G w (putB (putB x b1 o1) b2 o2) := (h.putB o1 (fun e => by omega)).putB o2 (fun e => by omega)
theorem memW_putB2 {x : World} {X : Nat → Prop} {p frames N b1 b2 : Nat} {wd : Nat → Nat} {o1 o2 : Obj} (h : IsMemW x X p frames wd N) (h1 : X b1) (h2 : X b2) : IsMemW (putB (putB x b1 o1) b2 o2) X p frames wd N :=
  memW_only h (((Only.refl (fun b => b = b1 ∨ b = b2) x).putB o1 (fun _ => .inl rfl)).putB o2 (fun _ => .inr rfl)) (fun b hb e => by rcases e with rfl | rfl <;> exact hb (by assumption))
theorem memW_drew {x : World} {X : Nat → Prop} {p frames N : Nat} {wd : Nat → Nat} (h : IsMemW x X p frames wd N) : IsMemW x.drew X p frames wd N := memW_old h (old_drew (old_refl _))
theorem only_drew {G : Nat → Prop} {w x : World} (h : Only G w x) : Only G w x.drew := h.trans ((Only.of_below (old_drew (old_refl x))).mono fun b _ f => f.elim)
theorem retSec_end {w W : World} {X : Nat → Prop} {p frames N M mb b8 b9 n : Nat} {wd : Nat → Nat} {q : O8 × F5 × Nat} {o : O8} {f : F5} {o1 o2 : Obj} (hn : mb = w.heap.size) (hm : IsMemW W (fun b => X b ∨ mb ≤ b) p frames wd M) (hM : M ≤ N + 4) (ho : Only (fun b => ¬ (X b ∨ mb ≤ b) ∨ mb ≤ b) w W) (h8 : mb ≤ b8) (h9 : mb ≤ b9) (hq : q = (o, f, n)) :
    RetSec w X p frames wd (N + 4) q (.returned (.tuple #[.agg o.cells, .agg f.cells, .int .i64 (n : Nat)])) (putB (putB W.drew b8 o1) b9 o2) := by
  subst hq
  obtain ⟨a, b⟩ := retSec_only hn (memW_putB2 (memW_drew hm) (.inr h8) (.inr h9) (o1 := o1) (o2 := o2)) (only_putB2 (only_drew ho) (by omega) (by omega)) (fun b hb => hb.imp (fun h h' => h (.inl h')) id)
  exact ⟨rfl, memW_le a hM, b⟩
set_option maxHeartbeats 8000000 in
set_option maxRecDepth 100000 in
theorem second_calls {w : World} {X : Nat → Prop} {p frames : Nat} {wd : Nat → Nat} {N : Nat} (h : IsMemW w X p frames wd N) (hN : N < 3999999990) (two ipa : Nat) (htwo : two < 18446744073709551616) (hipa : ipa < 18446744073709551616) (access : Int) :
    Calls Try.prog 33 #[.pointer (some ⟨p, 0, none⟩), .int .u64 (two : Nat), .int .u64 (ipa : Nat), .int .i64 access] w (RetSec w X p frames wd (N + 4) (secondN (rawM frames wd) (okM frames) two ipa access)) := by
  obtain ⟨sto, hsto⟩ : ∃ sto, (access == 2) = sto := ⟨_, rfl⟩
  have hsd : decide (access = 2) = sto := by rw [← hsto]; rfl
  have HSD := Lib.hid hsd
  obtain ⟨q, hq⟩ : ∃ q, secondN (rawM frames wd) (okM frames) two ipa access = q := ⟨_, rfl⟩
  rw [hq]
  have HQ := Lib.hid hq
  have hraw := fun a => rawM_lt h a
  have hmem : ∀ x, Old w x → IsMemW x (fun b => X b ∨ w.heap.size ≤ b) p frames wd N := fun x hx => memW_old (memW_more h (fun b hb => hb)) hx
  have hlt : ∀ b, ¬ (X b ∨ w.heap.size ≤ b) → b < w.heap.size := fun b hb => Nat.lt_of_not_le (fun e => hb (.inr e))
  have HM := Lib.hid (And.intro hraw (And.intro hmem hlt))
  have HU := Lib.hid (And.intro hN (And.intro htwo hipa))
  clear h hsd hq hraw hmem hlt hN htwo
  go_enter Try.func33, Try.ntmps33
  go_upto_region 2 with (fail)
  have hH := holds_new #[.int .i64 2, .int .i64 4, .int .i64 (-1), .int .u64 (ipa : Nat), .bool sto] 67 (holds_new #[.int .i64 0, .int .i64 0, .int .i64 0, .int .u64 0, .bool false] 67 (holds_new #[.int .i64 0, .int .u64 0, .bool false, .bool false, .bool false, .bool false, .bool false, .bool false] 65 (holds_new #[.pointer (some ⟨p, 0, none⟩)] 61 (holds_nil w))))
  simp only [World.size_alloc] at hH
  have hsz : ((((w.alloc (.cells #[.pointer (some ⟨p, 0, none⟩)] 61)).alloc (.cells #[.int .i64 0, .int .u64 0, .bool false, .bool false, .bool false, .bool false, .bool false, .bool false] 65)).alloc (.cells #[.int .i64 0, .int .i64 0, .int .i64 0, .int .u64 0, .bool false] 67)).alloc (.cells #[.int .i64 2, .int .i64 4, .int .i64 (-1), .int .u64 (ipa : Nat), .bool sto] 67)).heap.size = w.heap.size + 1 + 1 + 1 + 1 := by simp only [World.size_alloc]
  generalize ((((w.alloc (.cells #[.pointer (some ⟨p, 0, none⟩)] 61)).alloc (.cells #[.int .i64 0, .int .u64 0, .bool false, .bool false, .bool false, .bool false, .bool false, .bool false] 65)).alloc (.cells #[.int .i64 0, .int .i64 0, .int .i64 0, .int .u64 0, .bool false] 67)).alloc (.cells #[.int .i64 2, .int .i64 4, .int .i64 (-1), .int .u64 (ipa : Nat), .bool sto] 67)) = X1 at *
  obtain ⟨bf, hbf⟩ : ∃ bf, bf = w.heap.size + 1 + 1 + 1 := ⟨_, rfl⟩
  obtain ⟨b9, hb9⟩ : ∃ b9, b9 = w.heap.size + 1 + 1 := ⟨_, rfl⟩
  obtain ⟨b8, hb8⟩ : ∃ b8, b8 = w.heap.size + 1 := ⟨_, rfl⟩
  obtain ⟨mb, hmb⟩ : ∃ mb, mb = w.heap.size := ⟨_, rfl⟩
  rw [← hbf, ← hb9, ← hb8, ← hmb] at hH
  rw [← hbf, ← hb9, ← hb8, ← hmb]
  have hmm := HM.out.2.1 X1 hH.1
  have hlt := HM.out.2.2
  rw [← hmb] at hmm hlt
  have HB := Lib.hid (And.intro hmb (And.intro hb8 (And.intro hb9 (And.intro hbf hsz))))
  have HX := Lib.hid (And.intro hmm hlt)
  have HNE : Hid (b8 ≠ b9 ∧ bf ≠ b8 ∧ bf ≠ b9 ∧ mb ≤ bf ∧ mb ≤ b8 ∧ mb ≤ b9) := Lib.hid (by omega)
  have hYf : ∀ b, mb ≤ b → (X b ∨ mb ≤ b) := fun b hb => .inr hb
  obtain ⟨hO, hKf, hK9, hK8, hKm, -⟩ := id hH
  have KF0 := hKf
  have K8 := hK8
  have K9 := hK9
  have HK := Lib.hid (And.intro hO (And.intro hKf (And.intro hK9 (And.intro hK8 hKm))))
  obtain ⟨km, qm, zm⟩ := of_block hKm
  obtain ⟨kf, qf, zf⟩ := of_block hKf
  clear hmb hb8 hb9 hbf hsz hmm hlt hYf hH hO hKf hK9 hK8 hKm KF0 K8 K9
  by_cases hi : 1099511627776 ≤ ipa
  · have hi1 : (1099511627776 : Int) ≤ ipa := by omega
    have hset : X1.setCell ⟨bf, 1, none⟩ (.int .i64 3) = putB X1 bf (.cells #[.int .i64 2, .int .i64 3, .int .i64 (-1), .int .u64 (ipa : Nat), .bool sto] 67) := by rw [set_of HK.out.2.1]; rfl
    have HQ6 : Hid (q = (O0, ⟨2, 3, -1, ipa, sto⟩, 0)) := Lib.hid (by rw [← HQ.out, ← HSD.out]; unfold secondN; exact if_pos hi)
    clear hi HM
    go_upto_region 6 with (fail)
    have KF := putB_same (.cells #[.int .i64 2, .int .i64 3, .int .i64 (-1), .int .u64 (ipa : Nat), .bool sto] 67) (lt_of_block HK.out.2.1)
    have K8 : (putB X1 bf (.cells #[.int .i64 2, .int .i64 3, .int .i64 (-1), .int .u64 (ipa : Nat), .bool sto] 67)).heap[b8]? = _ := (putB_other _ HNE.out.2.1).trans HK.out.2.2.2.1
    have K9 : (putB X1 bf (.cells #[.int .i64 2, .int .i64 3, .int .i64 (-1), .int .u64 (ipa : Nat), .bool sto] 67)).heap[b9]? = _ := (putB_other _ HNE.out.2.2.1).trans HK.out.2.2.1
    have hm := memW_only HX.out.1 ((Only.refl (fun b => b = bf) X1).putB (.cells #[.int .i64 2, .int .i64 3, .int .i64 (-1), .int .u64 (ipa : Nat), .bool sto] 67) (fun _ => rfl)) (fun b hb e => by subst e; exact hb (.inr HNE.out.2.2.2.1))
    have ho : Only (fun b => ¬ (X b ∨ mb ≤ b) ∨ mb ≤ b) w (putB X1 bf (.cells #[.int .i64 2, .int .i64 3, .int .i64 (-1), .int .u64 (ipa : Nat), .bool sto] 67)) := ((Only.of_below HK.out.1).mono fun b _ f => f.elim).putB _ (fun _ => .inr HNE.out.2.2.2.1)
    generalize putB X1 bf (.cells #[.int .i64 2, .int .i64 3, .int .i64 (-1), .int .u64 (ipa : Nat), .bool sto] 67) = W2 at *
    have HW2 := Lib.hid (And.intro hm ho)
    clear hm ho km qm zm kf qf zf hset hi1
    refine wp_region_staged (S := TwoS 2 3 b8 (.cells #[Value.int .i64 0, .int .u64 0, .bool false, .bool false, .bool false, .bool false, .bool false, .bool false] 65) b9 (.cells #[Value.int .i64 2, .int .i64 3, .int .i64 (-1), .int .u64 (ipa : Nat), .bool sto] 67) W2.drew) 5 (by kernel_rfl) (by kernel_rfl) (by kernel_rfl) (by decide) (two_start _) ?_
    apply walkedS_cons
    · intro l9 wS hz hn hS
      have hS9 := two_other 0 (by decide) (by decide) hS
      clear hS
      go_wp2
      exact ⟨rfl, rfl, hS9⟩
    · rfl
    (try simp only [Act.put, List.setIfInBounds_toArray, List.set_cons_succ, List.set_cons_zero])
    apply walkedS_cons
    · intro l9 wS hz hn hS
      have hS9 := two_other 1 (by decide) (by decide) hS
      have c9 := two_cell hS HNE.out.2.1 HNE.out.2.2.1 KF
      clear hS
      go_wp2
      exact ⟨rfl, rfl, hS9⟩
    · rfl
    (try simp only [Act.put, List.setIfInBounds_toArray, List.set_cons_succ, List.set_cons_zero])
    apply walkedS_cons
    · intro l9 wS hz hn hS
      have hb9 := two_first hn hS HNE.out.1 K8
      have hd9 := two_done1 hz (by decide) (by decide) hn HNE.out.1 hS
      refine wpList_store_whole rfl 65 _ _ rfl b8 [Value.int .i64 0, .int .u64 0, .bool false, .bool false, .bool false, .bool false, .bool false, .bool false] rfl rfl 65 _ hb9 (by kernel_rfl) rfl (by intro v hv; simp only [List.mem_cons, List.not_mem_nil, or_false] at hv; rcases hv with rfl | rfl | rfl | rfl | rfl | rfl | rfl | rfl <;> rfl) ?_
      exact ⟨rfl, rfl, hd9⟩
    · rfl
    (try simp only [Act.put, List.setIfInBounds_toArray, List.set_cons_succ, List.set_cons_zero])
    apply walkedS_cons
    · intro l9 wS hz hn hS
      have hb9 := two_second hn hS HNE.out.1 K9
      have hd9 := two_done2 hz (by decide) (by decide) hn hS
      refine wpList_store_whole rfl 67 _ _ rfl b9 [Value.int .i64 2, .int .i64 3, .int .i64 (-1), .int .u64 (ipa : Nat), .bool sto] rfl rfl 67 _ hb9 (by kernel_rfl) rfl (by intro v hv; simp only [List.mem_cons, List.not_mem_nil, or_false] at hv; rcases hv with rfl | rfl | rfl | rfl | rfl <;> rfl) ?_
      exact ⟨rfl, rfl, hd9⟩
    · rfl
    (try simp only [Act.put, List.setIfInBounds_toArray, List.set_cons_succ, List.set_cons_zero])
    apply walkedS_cons
    · intro l9 wS hz hn hS
      have hS9 := two_other 4 (by decide) (by decide) hS
      clear hS
      go_wp2
      exact ⟨rfl, rfl, hS9⟩
    · rfl
    (try simp only [Act.put, List.setIfInBounds_toArray, List.set_cons_succ, List.set_cons_zero])
    apply walkedS_nil
    intro l9 wS hz hall hS
    obtain rfl := two_all (hall 2 (by decide)) (hall 3 (by decide)) hS
    clear hS hall hz l9
    show wpList _ _ _ [] _ _
    go_wp2
    have r8 : (putB (putB W2.drew b8 (.cells #[Value.int .i64 0, .int .u64 0, .bool false, .bool false, .bool false, .bool false, .bool false, .bool false] 65)) b9 (.cells #[Value.int .i64 2, .int .i64 3, .int .i64 (-1), .int .u64 (ipa : Nat), .bool sto] 67)).heap[b8]? = some (.cells #[Value.int .i64 0, .int .u64 0, .bool false, .bool false, .bool false, .bool false, .bool false, .bool false] 65) := by rw [putB_other _ (Ne.symm HNE.out.1)]; exact putB_same _ (lt_of_block (show W2.drew.heap[b8]? = _ from K8))
    have r9 : (putB (putB W2.drew b8 (.cells #[Value.int .i64 0, .int .u64 0, .bool false, .bool false, .bool false, .bool false, .bool false, .bool false] 65)) b9 (.cells #[Value.int .i64 2, .int .i64 3, .int .i64 (-1), .int .u64 (ipa : Nat), .bool sto] 67)).heap[b9]? = some (.cells #[Value.int .i64 2, .int .i64 3, .int .i64 (-1), .int .u64 (ipa : Nat), .bool sto] 67) := putB_same _ (by rw [putB_size]; exact lt_of_block (show W2.drew.heap[b9]? = _ from K9))
    obtain ⟨k8, -, -⟩ := of_block r8
    obtain ⟨k9, -, -⟩ := of_block r9
    refine bodyPost_ret (by simp [results, Try.results33, go_sem, k8, k9]; try rfl) rfl ?_
    exact retSec_end HB.out.1 HW2.out.1 (by omega) HW2.out.2 HNE.out.2.2.2.2.1 HNE.out.2.2.2.2.2 HQ6.out
  have hi1 : decide ((1099511627776 : Int) ≤ (ipa : Int)) = false := decide_eq_false (by omega)
  have HI := Lib.hid hi
  clear hi
  go_upto_region 8 with (fail)
  have hO1 := old_alloc (old_refl X1) (.cells #[.int .i64 0] 3)
  have hKW := new_block X1 (.cells #[.int .i64 0] 3)
  have hsz : (X1.alloc (.cells #[.int .i64 0] 3)).heap.size = X1.heap.size + 1 := World.size_alloc _ _
  generalize X1.alloc (.cells #[.int .i64 0] 3) = X2 at *
  obtain ⟨wb, hwb⟩ : ∃ wb, wb = X1.heap.size := ⟨_, rfl⟩
  rw [← hwb] at hKW hsz ⊢
  have hwf : mb < wb ∧ b8 < wb ∧ b9 < wb ∧ bf < wb := by have := HB.out; omega
  have hG0 : SecS (fun b => X b ∨ mb ≤ b) mb wb p frames wd N X2.heap.size [] X2 :=
    ⟨memW_le (memW_old HX.out.1 hO1) (by simp), keep_old hO1 HK.out.2.2.2.2, hKW, .inr (Nat.le_refl _), .inr (by omega), by omega, by omega, by omega, fun b hb => by have := HX.out.2 b hb; have := HB.out.1; omega⟩
  have hwalk := walkA_calls 2 (.inr rfl) two ipa HU.out.2.1 HU.out.2.2 59 #[.pointer (some ⟨mb, 0, none⟩), .pointer (some ⟨wb, 0, none⟩)] (fun b => ¬ (X b ∨ mb ≤ b) ∨ b = wb) (SecS (fun b => X b ∨ mb ≤ b) mb wb p frames wd N X2.heap.size) (rawM frames wd) (okM frames) X2 (sec_reader HU.out.1 hG0 HM.out.1) hG0
  have hok := walk_ok (rawM frames wd) (okM frames) 2 ipa 4 0 two rfl (by decide)
  have hkinds := walk_kinds (raw := rawM frames wd) (ok := okM frames) (st := 2) (addr := ipa) 4 0 two
  have hflt := ask_filter (raw := rawM frames wd) (ok := okM frames) (st := 2) (addr := ipa) 4 0 two
  have hlen := ask_length (raw := rawM frames wd) (ok := okM frames) (st := 2) (addr := ipa) 4 0 two
  have hqd : ∀ r, walkN (rawM frames wd) (okM frames) 2 ipa 4 0 two = r → q = (if r.2 = -1 then (O0, ⟨2, 4, -1, ipa, sto⟩, r.1.length) else if r.2 ≠ 0 then (O0, ⟨2, r.2, -1, ipa, sto⟩, r.1.length)
      else if allowsB (lastN r.1).d.r (lastN r.1).d.w (lastN r.1).d.x access = false then (O0, ⟨2, 2, -1, ipa, sto⟩, r.1.length) else (⟨outN ipa (lastN r.1).lv (lastN r.1).d.k (lastN r.1).d.a / 4096, ipa / 4096, true, true, true, (lastN r.1).d.r, (lastN r.1).d.w, (lastN r.1).d.x⟩, F0, r.1.length)) := by
    rintro r rfl
    rw [← HQ.out, ← HSD.out]
    unfold secondN
    exact if_neg HI.out
  generalize hrr : walkN (rawM frames wd) (okM frames) 2 ipa 4 0 two = rr at *
  have hqd2 := hqd rr rfl
  generalize askN (rawM frames wd) (okM frames) 2 ipa 4 0 two = Z at *
  obtain ⟨L, K⟩ := rr
  have HQD := Lib.hid hqd2
  have HOK := Lib.hid (And.intro hok hkinds)
  have HZ := Lib.hid (And.intro hflt hlen)
  have HWB := Lib.hid (And.intro hwf (And.intro hO1 hsz))
  clear hO1 hKW hsz hwb hwf hG0 hok hkinds hflt hlen hqd hqd2 hrr km qm zm kf qf zf hi1 HI HQ
  go_wp2_with fail
  refine hwalk.mono ?_
  rintro e x2 ⟨v, rfl, hown, hS, hO2⟩
  have hown : x2.ownsRow X2.heap.size 52 9 v L.length (stCells L) := hown
  obtain ⟨s1, s2, s3, s4, s5, s6, s7, s8, s9⟩ := hS
  rw [HZ.out.1] at s3
  have s3 : x2.heap[wb]? = some (.cells #[.int .i64 (L.length : Nat)] 3) := s3
  have hsm := memW_le s1 (M := N + 4) (by have := HZ.out.2; omega)
  have hKF := keep_only hO2 (fun f => f.elim (fun f => f (.inr HNE.out.2.2.2.1)) (fun f => by have := HWB.out.1; omega)) (keep_old HWB.out.2.1 HK.out.2.1)
  have K9 := keep_only hO2 (fun f => f.elim (fun f => f (.inr HNE.out.2.2.2.2.2)) (fun f => by have := HWB.out.1; omega)) (keep_old HWB.out.2.1 HK.out.2.2.1)
  have K8 := keep_only hO2 (fun f => f.elim (fun f => f (.inr HNE.out.2.2.2.2.1)) (fun f => by have := HWB.out.1; omega)) (keep_old HWB.out.2.1 HK.out.2.2.2.1)
  have ho : Only (fun b => ¬ (X b ∨ mb ≤ b) ∨ mb ≤ b) w x2 := (((Only.of_below (old_then HK.out.1 HWB.out.2.1)).mono fun b _ f => f.elim)).trans (hO2.mono fun b _ f => f.elim .inl (fun e => .inr (by have := HWB.out.1; omega)))
  obtain ⟨a3, c3, rfl, hl3, hm3, -, q3⟩ := own_value hown
  have HR := Lib.hid (And.intro hsm (And.intro ho (And.intro hown q3)))
  obtain ⟨n, hn⟩ : ∃ n, L.length = n := ⟨_, rfl⟩
  rw [hn] at s3 ⊢
  have HN := Lib.hid hn
  have KW := s3
  have KF := hKF
  have hx2 := hO2.size
  have HSZ := Lib.hid hx2
  have HKK := Lib.hid (And.intro K8 (And.intro K9 (And.intro KW KF)))
  clear hwalk hown s1 s2 s3 s4 s5 s6 s7 s8 s9 hsm hKF ho hO2 hl3 hm3 q3 hn hx2
  by_cases hK : K = -1
  · subst hK
    have HQ6 : Hid (q = (O0, ⟨2, 4, -1, ipa, sto⟩, n)) := Lib.hid (by rw [HQD.out, ← HN.out]; rfl)
    have hm1 : decide ((-1 : Int) < 0) = true := by decide
    clear HQD K8 K9 KW KF
    go_upto_region 10 with (fail)
    obtain ⟨K8, K9, KW, KF⟩ := HKK.out
    refine wp_region_staged (S := TwoS 3 4 b8 (.cells #[Value.int .i64 0, .int .u64 0, .bool false, .bool false, .bool false, .bool false, .bool false, .bool false] 65) b9 (.cells #[Value.int .i64 2, .int .i64 4, .int .i64 (-1), .int .u64 (ipa : Nat), .bool sto] 67) x2.drew) 6 (by kernel_rfl) (by kernel_rfl) (by kernel_rfl) (by decide) (two_start _) ?_
    apply walkedS_cons
    · intro l9 wS hz hn hS
      have hS9 := two_other 0 (by decide) (by decide) hS
      clear hS
      go_wp2
      exact ⟨rfl, rfl, hS9⟩
    · rfl
    (try simp only [Act.put, List.setIfInBounds_toArray, List.set_cons_succ, List.set_cons_zero])
    apply walkedS_cons
    · intro l9 wS hz hn hS
      have hS9 := two_other 1 (by decide) (by decide) hS
      have c9 := two_cell hS HNE.out.2.1 HNE.out.2.2.1 KF
      clear hS
      go_wp2
      exact ⟨rfl, rfl, hS9⟩
    · rfl
    (try simp only [Act.put, List.setIfInBounds_toArray, List.set_cons_succ, List.set_cons_zero])
    apply walkedS_cons
    · intro l9 wS hz hn hS
      have hS9 := two_other 2 (by decide) (by decide) hS
      have c9 := two_cell hS (show wb ≠ b8 by have := HWB.out.1; omega) (show wb ≠ b9 by have := HWB.out.1; omega) KW
      clear hS
      go_wp2
      exact ⟨rfl, rfl, hS9⟩
    · rfl
    (try simp only [Act.put, List.setIfInBounds_toArray, List.set_cons_succ, List.set_cons_zero])
    apply walkedS_cons
    · intro l9 wS hz hn hS
      have hb9 := two_first hn hS HNE.out.1 K8
      have hd9 := two_done1 hz (by decide) (by decide) hn HNE.out.1 hS
      refine wpList_store_whole rfl 65 _ _ rfl b8 [Value.int .i64 0, .int .u64 0, .bool false, .bool false, .bool false, .bool false, .bool false, .bool false] rfl rfl 65 _ hb9 (by kernel_rfl) rfl (by intro v hv; simp only [List.mem_cons, List.not_mem_nil, or_false] at hv; rcases hv with rfl | rfl | rfl | rfl | rfl | rfl | rfl | rfl <;> rfl) ?_
      exact ⟨rfl, rfl, hd9⟩
    · rfl
    (try simp only [Act.put, List.setIfInBounds_toArray, List.set_cons_succ, List.set_cons_zero])
    apply walkedS_cons
    · intro l9 wS hz hn hS
      have hb9 := two_second hn hS HNE.out.1 K9
      have hd9 := two_done2 hz (by decide) (by decide) hn hS
      refine wpList_store_whole rfl 67 _ _ rfl b9 [Value.int .i64 2, .int .i64 4, .int .i64 (-1), .int .u64 (ipa : Nat), .bool sto] rfl rfl 67 _ hb9 (by kernel_rfl) rfl (by intro v hv; simp only [List.mem_cons, List.not_mem_nil, or_false] at hv; rcases hv with rfl | rfl | rfl | rfl | rfl <;> rfl) ?_
      exact ⟨rfl, rfl, hd9⟩
    · rfl
    (try simp only [Act.put, List.setIfInBounds_toArray, List.set_cons_succ, List.set_cons_zero])
    apply walkedS_cons
    · intro l9 wS hz hn hS
      have hS9 := two_other 5 (by decide) (by decide) hS
      clear hS
      go_wp2
      exact ⟨rfl, rfl, hS9⟩
    · rfl
    (try simp only [Act.put, List.setIfInBounds_toArray, List.set_cons_succ, List.set_cons_zero])
    apply walkedS_nil
    intro l9 wS hz hall hS
    obtain rfl := two_all (hall 3 (by decide)) (hall 4 (by decide)) hS
    clear hS hall hz l9
    show wpList _ _ _ [] _ _
    go_wp2
    have r8 : (putB (putB x2.drew b8 (.cells #[Value.int .i64 0, .int .u64 0, .bool false, .bool false, .bool false, .bool false, .bool false, .bool false] 65)) b9 (.cells #[Value.int .i64 2, .int .i64 4, .int .i64 (-1), .int .u64 (ipa : Nat), .bool sto] 67)).heap[b8]? = some (.cells #[Value.int .i64 0, .int .u64 0, .bool false, .bool false, .bool false, .bool false, .bool false, .bool false] 65) := by rw [putB_other _ (Ne.symm HNE.out.1)]; exact putB_same _ (lt_of_block (show x2.drew.heap[b8]? = _ from K8))
    have r9 : (putB (putB x2.drew b8 (.cells #[Value.int .i64 0, .int .u64 0, .bool false, .bool false, .bool false, .bool false, .bool false, .bool false] 65)) b9 (.cells #[Value.int .i64 2, .int .i64 4, .int .i64 (-1), .int .u64 (ipa : Nat), .bool sto] 67)).heap[b9]? = some (.cells #[Value.int .i64 2, .int .i64 4, .int .i64 (-1), .int .u64 (ipa : Nat), .bool sto] 67) := putB_same _ (by rw [putB_size]; exact lt_of_block (show x2.drew.heap[b9]? = _ from K9))
    obtain ⟨k8, -, -⟩ := of_block r8
    obtain ⟨k9, -, -⟩ := of_block r9
    refine bodyPost_ret (by simp [results, Try.results33, go_sem, k8, k9]; try rfl) rfl ?_
    exact retSec_end HB.out.1 HR.out.1 (Nat.le_refl _) HR.out.2.1 HNE.out.2.2.2.2.1 HNE.out.2.2.2.2.2 HQ6.out
  by_cases hK0 : K = 0
  case neg =>
    have HQ6 : Hid (q = (O0, ⟨2, K, -1, ipa, sto⟩, n)) := Lib.hid (by rw [HQD.out, ← HN.out]; show (if K = -1 then _ else _) = _; rw [if_neg hK, if_pos hK0])
    have hk1 : (0 : Int) ≤ K := by have h9 : K = -1 ∨ K = 0 ∨ K = 1 ∨ K = 3 ∨ K = 4 := HOK.out.2; omega
    have hk2 : (K != 0) = true := by simp [hK0]
    have hk3 : decide (K < 0) = false := decide_eq_false (by omega)
    have hset : x2.setCell ⟨bf, 1, none⟩ (.int .i64 K) = putB x2 bf (.cells #[.int .i64 2, .int .i64 K, .int .i64 (-1), .int .u64 (ipa : Nat), .bool sto] 67) := by rw [set_of KF]; rfl
    obtain ⟨kf, qf, zf⟩ := of_block KF
    clear HQD K8 K9 KW KF hK hK0 hk1
    go_upto_region 13 with (fail)
    obtain ⟨K8, K9, KW, KF0⟩ := HKK.out
    have KF := putB_same (.cells #[.int .i64 2, .int .i64 K, .int .i64 (-1), .int .u64 (ipa : Nat), .bool sto] 67) (lt_of_block KF0)
    have K8 := (putB_other (.cells #[.int .i64 2, .int .i64 K, .int .i64 (-1), .int .u64 (ipa : Nat), .bool sto] 67) HNE.out.2.1).trans K8
    have K9 := (putB_other (.cells #[.int .i64 2, .int .i64 K, .int .i64 (-1), .int .u64 (ipa : Nat), .bool sto] 67) HNE.out.2.2.1).trans K9
    have KW := (putB_other (.cells #[.int .i64 2, .int .i64 K, .int .i64 (-1), .int .u64 (ipa : Nat), .bool sto] 67) (show bf ≠ wb by have := HWB.out.1; omega)).trans KW
    have hm := memW_only HR.out.1 ((Only.refl (fun b => b = bf) x2).putB (.cells #[.int .i64 2, .int .i64 K, .int .i64 (-1), .int .u64 (ipa : Nat), .bool sto] 67) (fun _ => rfl)) (fun b hb e => by subst e; exact hb (.inr HNE.out.2.2.2.1))
    have ho := HR.out.2.1.putB (b := bf) (.cells #[.int .i64 2, .int .i64 K, .int .i64 (-1), .int .u64 (ipa : Nat), .bool sto] 67) (fun _ => .inr HNE.out.2.2.2.1)
    generalize putB x2 bf (.cells #[.int .i64 2, .int .i64 K, .int .i64 (-1), .int .u64 (ipa : Nat), .bool sto] 67) = W2 at *
    have HW2 := Lib.hid (And.intro hm ho)
    clear hm ho kf qf zf hset KF0
    refine wp_region_staged (S := TwoS 3 4 b8 (.cells #[Value.int .i64 0, .int .u64 0, .bool false, .bool false, .bool false, .bool false, .bool false, .bool false] 65) b9 (.cells #[Value.int .i64 2, .int .i64 K, .int .i64 (-1), .int .u64 (ipa : Nat), .bool sto] 67) W2.drew) 6 (by kernel_rfl) (by kernel_rfl) (by kernel_rfl) (by decide) (two_start _) ?_
    apply walkedS_cons
    · intro l9 wS hz hn hS
      have hS9 := two_other 0 (by decide) (by decide) hS
      clear hS
      go_wp2
      exact ⟨rfl, rfl, hS9⟩
    · rfl
    (try simp only [Act.put, List.setIfInBounds_toArray, List.set_cons_succ, List.set_cons_zero])
    apply walkedS_cons
    · intro l9 wS hz hn hS
      have hS9 := two_other 1 (by decide) (by decide) hS
      have c9 := two_cell hS HNE.out.2.1 HNE.out.2.2.1 KF
      clear hS
      go_wp2
      exact ⟨rfl, rfl, hS9⟩
    · rfl
    (try simp only [Act.put, List.setIfInBounds_toArray, List.set_cons_succ, List.set_cons_zero])
    apply walkedS_cons
    · intro l9 wS hz hn hS
      have hS9 := two_other 2 (by decide) (by decide) hS
      have c9 := two_cell hS (show wb ≠ b8 by have := HWB.out.1; omega) (show wb ≠ b9 by have := HWB.out.1; omega) KW
      clear hS
      go_wp2
      exact ⟨rfl, rfl, hS9⟩
    · rfl
    (try simp only [Act.put, List.setIfInBounds_toArray, List.set_cons_succ, List.set_cons_zero])
    apply walkedS_cons
    · intro l9 wS hz hn hS
      have hb9 := two_first hn hS HNE.out.1 K8
      have hd9 := two_done1 hz (by decide) (by decide) hn HNE.out.1 hS
      refine wpList_store_whole rfl 65 _ _ rfl b8 [Value.int .i64 0, .int .u64 0, .bool false, .bool false, .bool false, .bool false, .bool false, .bool false] rfl rfl 65 _ hb9 (by kernel_rfl) rfl (by intro v hv; simp only [List.mem_cons, List.not_mem_nil, or_false] at hv; rcases hv with rfl | rfl | rfl | rfl | rfl | rfl | rfl | rfl <;> rfl) ?_
      exact ⟨rfl, rfl, hd9⟩
    · rfl
    (try simp only [Act.put, List.setIfInBounds_toArray, List.set_cons_succ, List.set_cons_zero])
    apply walkedS_cons
    · intro l9 wS hz hn hS
      have hb9 := two_second hn hS HNE.out.1 K9
      have hd9 := two_done2 hz (by decide) (by decide) hn hS
      refine wpList_store_whole rfl 67 _ _ rfl b9 [Value.int .i64 2, .int .i64 K, .int .i64 (-1), .int .u64 (ipa : Nat), .bool sto] rfl rfl 67 _ hb9 (by kernel_rfl) rfl (by intro v hv; simp only [List.mem_cons, List.not_mem_nil, or_false] at hv; rcases hv with rfl | rfl | rfl | rfl | rfl <;> rfl) ?_
      exact ⟨rfl, rfl, hd9⟩
    · rfl
    (try simp only [Act.put, List.setIfInBounds_toArray, List.set_cons_succ, List.set_cons_zero])
    apply walkedS_cons
    · intro l9 wS hz hn hS
      have hS9 := two_other 5 (by decide) (by decide) hS
      clear hS
      go_wp2
      exact ⟨rfl, rfl, hS9⟩
    · rfl
    (try simp only [Act.put, List.setIfInBounds_toArray, List.set_cons_succ, List.set_cons_zero])
    apply walkedS_nil
    intro l9 wS hz hall hS
    obtain rfl := two_all (hall 3 (by decide)) (hall 4 (by decide)) hS
    clear hS hall hz l9
    show wpList _ _ _ [] _ _
    go_wp2
    have r8 : (putB (putB W2.drew b8 (.cells #[Value.int .i64 0, .int .u64 0, .bool false, .bool false, .bool false, .bool false, .bool false, .bool false] 65)) b9 (.cells #[Value.int .i64 2, .int .i64 K, .int .i64 (-1), .int .u64 (ipa : Nat), .bool sto] 67)).heap[b8]? = some (.cells #[Value.int .i64 0, .int .u64 0, .bool false, .bool false, .bool false, .bool false, .bool false, .bool false] 65) := by rw [putB_other _ (Ne.symm HNE.out.1)]; exact putB_same _ (lt_of_block (show W2.drew.heap[b8]? = _ from K8))
    have r9 : (putB (putB W2.drew b8 (.cells #[Value.int .i64 0, .int .u64 0, .bool false, .bool false, .bool false, .bool false, .bool false, .bool false] 65)) b9 (.cells #[Value.int .i64 2, .int .i64 K, .int .i64 (-1), .int .u64 (ipa : Nat), .bool sto] 67)).heap[b9]? = some (.cells #[Value.int .i64 2, .int .i64 K, .int .i64 (-1), .int .u64 (ipa : Nat), .bool sto] 67) := putB_same _ (by rw [putB_size]; exact lt_of_block (show W2.drew.heap[b9]? = _ from K9))
    obtain ⟨k8, -, -⟩ := of_block r8
    obtain ⟨k9, -, -⟩ := of_block r9
    refine bodyPost_ret (by simp [results, Try.results33, go_sem, k8, k9]; try rfl) rfl ?_
    exact retSec_end HB.out.1 HW2.out.1 (Nat.le_refl _) HW2.out.2 HNE.out.2.2.2.2.1 HNE.out.2.2.2.2.2 HQ6.out
  subst hK0
  have hk3 : decide ((0 : Int) < 0) = false := by decide
  have hn1 : 1 ≤ n := by
    have := HOK.out.1.some_ (show (0 : Int) ≠ -1 by decide)
    rw [← HN.out]; exact this
  obtain ⟨s, hs0, hs1, hs⟩ := last_mem (l := L) (by rw [HN.out]; exact hn1)
  rw [HN.out] at hs
  obtain ⟨f1, f2, f3, f4⟩ := way_at HOK.out.1.way hs
  have hl4 : n ≤ 4 := by rw [← HN.out]; exact HOK.out.1.len
  obtain ⟨g1, rfl⟩ := HR.out.2.2.2 (by rw [HN.out]; omega)
  have hcs : ∀ (c : Nat) (u : Value), s.cells[c]? = some u → x2.cell? ⟨g1, (n - 1) * 9 + c, none⟩ = some u := fun c u hu => own_cell HR.out.2.2.1 rfl _ (stCells_get L _ s c u hs hu)
  have HQ7 : Hid (q = (if allowsB s.d.r s.d.w s.d.x access = false then (O0, ⟨2, 2, -1, ipa, sto⟩, n) else (⟨outN ipa s.lv s.d.k s.d.a / 4096, ipa / 4096, true, true, true, s.d.r, s.d.w, s.d.x⟩, F0, n))) := Lib.hid (by rw [HQD.out, ← HN.out, ← hs1]; rfl)
  obtain ⟨lv, sat, sraw, ⟨dk, da, dr, dw, dx, dS⟩⟩ := s
  have hcs2 : ∀ (c : Nat) (u : Value), [Value.int .i64 (lv : Nat), .int .u64 (sat : Nat), .int .u64 (sraw : Nat), .int .i64 dk, .int .u64 (da : Nat), .bool dr, .bool dw, .bool dx, .int .i64 dS][c]? = some u → x2.cell? ⟨g1, (n - 1) * 9 + c, none⟩ = some u := hcs
  have hda : da < 18446744073709551616 := f4
  have HQ8 : Hid (q = (if allowsB dr dw dx access = false then (O0, ⟨2, 2, -1, ipa, sto⟩, n) else (⟨outN ipa lv dk da / 4096, ipa / 4096, true, true, true, dr, dw, dx⟩, F0, n))) := Lib.hid HQ7.out
  have HCS := Lib.hid hcs2
  have HDA := Lib.hid hda
  have hn1' : ((n - 1 : Nat) : Int) = (n : Int) - 1 := by omega
  have n4 : (n : Int) ≤ 4 := by omega
  have hge : (0 : Int) ≤ (n : Int) - 1 := by omega
  have hlt : (n : Int) - 1 < n := by omega
  have htn : ((n : Int) - 1).toNat = n - 1 := by omega
  have HN1 := Lib.hid hn1'
  clear hn1 hs0 hs1 hs f1 f2 f3 f4 hl4 hcs HQ7 HQD hcs2 hda hK K8 K9 KW KF
  go_upto_region 15 with (refine wpList_load_at rfl 52 _ rfl g1 ((n - 1) * 9) rfl [Value.int .i64 (lv : Nat), .int .u64 (sat : Nat), .int .u64 (sraw : Nat), .int .i64 dk, .int .u64 (da : Nat), .bool dr, .bool dw, .bool dx, .int .i64 dS] _ HCS.out Try.underlying52 rfl (by kernel_rfl) ?_)
  have hO3 := old_alloc (old_refl x2) (.cells #[Value.int .i64 (lv : Nat), .int .u64 (sat : Nat), .int .u64 (sraw : Nat), .int .i64 dk, .int .u64 (da : Nat), .bool dr, .bool dw, .bool dx, .int .i64 dS] 52)
  have hxb := new_block x2 (.cells #[Value.int .i64 (lv : Nat), .int .u64 (sat : Nat), .int .u64 (sraw : Nat), .int .i64 dk, .int .u64 (da : Nat), .bool dr, .bool dw, .bool dx, .int .i64 dS] 52)
  generalize x2.alloc (.cells #[Value.int .i64 (lv : Nat), .int .u64 (sat : Nat), .int .u64 (sraw : Nat), .int .i64 dk, .int .u64 (da : Nat), .bool dr, .bool dw, .bool dx, .int .i64 dS] 52) = X3 at *
  obtain ⟨bl, hbl⟩ : ∃ bl, bl = x2.heap.size := ⟨_, rfl⟩
  rw [← hbl] at hxb ⊢
  have hbl2 : mb < bl ∧ b8 < bl ∧ b9 < bl ∧ bf < bl ∧ wb < bl := by have := HSZ.out; have := HWB.out; omega
  have K8 := keep_old hO3 HKK.out.1
  have K9 := keep_old hO3 HKK.out.2.1
  have KW := keep_old hO3 HKK.out.2.2.1
  have KF := keep_old hO3 HKK.out.2.2.2
  have hm := memW_old HR.out.1 hO3
  have ho := HR.out.2.1.trans ((Only.of_below hO3).mono (G := fun b => ¬ (X b ∨ mb ≤ b) ∨ mb ≤ b) fun b _ f => f.elim)
  have hall := allows_calls dr dw dx access
  obtain ⟨km, qm, zm⟩ := of_block hxb
  have HX3 := Lib.hid (And.intro hm (And.intro ho (And.intro hbl2 hxb)))
  have HK3 := Lib.hid (And.intro K8 (And.intro K9 (And.intro KW KF)))
  have HALL := Lib.hid hall
  clear hO3 hbl hbl2 K8 K9 KW KF hm ho hall HCS hn1' hge hlt htn HKK HSZ hxb
  cases hal : allowsB dr dw dx access with
  | false =>
    have HQ6 : Hid (q = (O0, ⟨2, 2, -1, ipa, sto⟩, n)) := Lib.hid (by rw [HQ8.out, if_pos hal])
    have hc := HALL.out X3
    rw [hal] at hc
    clear hal
    go_wp2_with fail
    (with_reducible refine hc.mono ?_)
    rintro e x4 ⟨rfl, hO4⟩
    have K8 := keep_old hO4 HK3.out.1
    have K9 := keep_old hO4 HK3.out.2.1
    have KW := keep_old hO4 HK3.out.2.2.1
    have KF := keep_old hO4 HK3.out.2.2.2
    have hset : x4.setCell ⟨bf, 1, none⟩ (.int .i64 2) = putB x4 bf (.cells #[.int .i64 2, .int .i64 2, .int .i64 (-1), .int .u64 (ipa : Nat), .bool sto] 67) := by rw [set_of KF]; rfl
    obtain ⟨kf, qf, zf⟩ := of_block KF
    have HO4 := Lib.hid hO4
    have HK4 := Lib.hid (And.intro K8 (And.intro K9 (And.intro KW KF)))
    clear hO4 K8 K9 KW KF hc km qm zm
    go_upto_region 17 with (fail)
    obtain ⟨K8, K9, KW, KF0⟩ := HK4.out
    have KF := putB_same (.cells #[.int .i64 2, .int .i64 2, .int .i64 (-1), .int .u64 (ipa : Nat), .bool sto] 67) (lt_of_block KF0)
    have K8 := (putB_other (.cells #[.int .i64 2, .int .i64 2, .int .i64 (-1), .int .u64 (ipa : Nat), .bool sto] 67) HNE.out.2.1).trans K8
    have K9 := (putB_other (.cells #[.int .i64 2, .int .i64 2, .int .i64 (-1), .int .u64 (ipa : Nat), .bool sto] 67) HNE.out.2.2.1).trans K9
    have KW := (putB_other (.cells #[.int .i64 2, .int .i64 2, .int .i64 (-1), .int .u64 (ipa : Nat), .bool sto] 67) (show bf ≠ wb by have := HWB.out.1; omega)).trans KW
    have hm := memW_only (memW_old HX3.out.1 HO4.out) ((Only.refl (fun b => b = bf) x4).putB (.cells #[.int .i64 2, .int .i64 2, .int .i64 (-1), .int .u64 (ipa : Nat), .bool sto] 67) (fun _ => rfl)) (fun b hb e => by subst e; exact hb (.inr HNE.out.2.2.2.1))
    have ho := (HX3.out.2.1.trans ((Only.of_below HO4.out).mono (G := fun b => ¬ (X b ∨ mb ≤ b) ∨ mb ≤ b) fun b _ f => f.elim)).putB (b := bf) (.cells #[.int .i64 2, .int .i64 2, .int .i64 (-1), .int .u64 (ipa : Nat), .bool sto] 67) (fun _ => .inr HNE.out.2.2.2.1)
    generalize putB x4 bf (.cells #[.int .i64 2, .int .i64 2, .int .i64 (-1), .int .u64 (ipa : Nat), .bool sto] 67) = W2 at *
    have HW2 := Lib.hid (And.intro hm ho)
    clear hm ho kf qf zf hset KF0
    refine wp_region_staged (S := TwoS 3 4 b8 (.cells #[Value.int .i64 0, .int .u64 0, .bool false, .bool false, .bool false, .bool false, .bool false, .bool false] 65) b9 (.cells #[Value.int .i64 2, .int .i64 2, .int .i64 (-1), .int .u64 (ipa : Nat), .bool sto] 67) W2.drew) 6 (by kernel_rfl) (by kernel_rfl) (by kernel_rfl) (by decide) (two_start _) ?_
    apply walkedS_cons
    · intro l9 wS hz hn hS
      have hS9 := two_other 0 (by decide) (by decide) hS
      clear hS
      go_wp2
      exact ⟨rfl, rfl, hS9⟩
    · rfl
    (try simp only [Act.put, List.setIfInBounds_toArray, List.set_cons_succ, List.set_cons_zero])
    apply walkedS_cons
    · intro l9 wS hz hn hS
      have hS9 := two_other 1 (by decide) (by decide) hS
      have c9 := two_cell hS HNE.out.2.1 HNE.out.2.2.1 KF
      clear hS
      go_wp2
      exact ⟨rfl, rfl, hS9⟩
    · rfl
    (try simp only [Act.put, List.setIfInBounds_toArray, List.set_cons_succ, List.set_cons_zero])
    apply walkedS_cons
    · intro l9 wS hz hn hS
      have hS9 := two_other 2 (by decide) (by decide) hS
      have c9 := two_cell hS (show wb ≠ b8 by have := HWB.out.1; omega) (show wb ≠ b9 by have := HWB.out.1; omega) KW
      clear hS
      go_wp2
      exact ⟨rfl, rfl, hS9⟩
    · rfl
    (try simp only [Act.put, List.setIfInBounds_toArray, List.set_cons_succ, List.set_cons_zero])
    apply walkedS_cons
    · intro l9 wS hz hn hS
      have hb9 := two_first hn hS HNE.out.1 K8
      have hd9 := two_done1 hz (by decide) (by decide) hn HNE.out.1 hS
      refine wpList_store_whole rfl 65 _ _ rfl b8 [Value.int .i64 0, .int .u64 0, .bool false, .bool false, .bool false, .bool false, .bool false, .bool false] rfl rfl 65 _ hb9 (by kernel_rfl) rfl (by intro v hv; simp only [List.mem_cons, List.not_mem_nil, or_false] at hv; rcases hv with rfl | rfl | rfl | rfl | rfl | rfl | rfl | rfl <;> rfl) ?_
      exact ⟨rfl, rfl, hd9⟩
    · rfl
    (try simp only [Act.put, List.setIfInBounds_toArray, List.set_cons_succ, List.set_cons_zero])
    apply walkedS_cons
    · intro l9 wS hz hn hS
      have hb9 := two_second hn hS HNE.out.1 K9
      have hd9 := two_done2 hz (by decide) (by decide) hn hS
      refine wpList_store_whole rfl 67 _ _ rfl b9 [Value.int .i64 2, .int .i64 2, .int .i64 (-1), .int .u64 (ipa : Nat), .bool sto] rfl rfl 67 _ hb9 (by kernel_rfl) rfl (by intro v hv; simp only [List.mem_cons, List.not_mem_nil, or_false] at hv; rcases hv with rfl | rfl | rfl | rfl | rfl <;> rfl) ?_
      exact ⟨rfl, rfl, hd9⟩
    · rfl
    (try simp only [Act.put, List.setIfInBounds_toArray, List.set_cons_succ, List.set_cons_zero])
    apply walkedS_cons
    · intro l9 wS hz hn hS
      have hS9 := two_other 5 (by decide) (by decide) hS
      clear hS
      go_wp2
      exact ⟨rfl, rfl, hS9⟩
    · rfl
    (try simp only [Act.put, List.setIfInBounds_toArray, List.set_cons_succ, List.set_cons_zero])
    apply walkedS_nil
    intro l9 wS hz hall hS
    obtain rfl := two_all (hall 3 (by decide)) (hall 4 (by decide)) hS
    clear hS hall hz l9
    show wpList _ _ _ [] _ _
    go_wp2
    have r8 : (putB (putB W2.drew b8 (.cells #[Value.int .i64 0, .int .u64 0, .bool false, .bool false, .bool false, .bool false, .bool false, .bool false] 65)) b9 (.cells #[Value.int .i64 2, .int .i64 2, .int .i64 (-1), .int .u64 (ipa : Nat), .bool sto] 67)).heap[b8]? = some (.cells #[Value.int .i64 0, .int .u64 0, .bool false, .bool false, .bool false, .bool false, .bool false, .bool false] 65) := by rw [putB_other _ (Ne.symm HNE.out.1)]; exact putB_same _ (lt_of_block (show W2.drew.heap[b8]? = _ from K8))
    have r9 : (putB (putB W2.drew b8 (.cells #[Value.int .i64 0, .int .u64 0, .bool false, .bool false, .bool false, .bool false, .bool false, .bool false] 65)) b9 (.cells #[Value.int .i64 2, .int .i64 2, .int .i64 (-1), .int .u64 (ipa : Nat), .bool sto] 67)).heap[b9]? = some (.cells #[Value.int .i64 2, .int .i64 2, .int .i64 (-1), .int .u64 (ipa : Nat), .bool sto] 67) := putB_same _ (by rw [putB_size]; exact lt_of_block (show W2.drew.heap[b9]? = _ from K9))
    obtain ⟨k8, -, -⟩ := of_block r8
    obtain ⟨k9, -, -⟩ := of_block r9
    refine bodyPost_ret (by simp [results, Try.results33, go_sem, k8, k9]; try rfl) rfl ?_
    exact retSec_end HB.out.1 HW2.out.1 (Nat.le_refl _) HW2.out.2 HNE.out.2.2.2.2.1 HNE.out.2.2.2.2.2 HQ6.out
  | true =>
    have hc := HALL.out X3
    rw [hal] at hc
    have HQ6 : Hid (q = (⟨outN ipa lv dk da / 4096, ipa / 4096, true, true, true, dr, dw, dx⟩, F0, n)) := Lib.hid (by rw [HQ8.out, if_neg (by rw [hal]; simp)])
    have hout := fun x => out_calls ipa HU.out.2.2 lv sat sraw dk da HDA.out dr dw dx dS x
    have hol : outN ipa lv dk da < 18446744073709551616 := by
      unfold outN; split
      · exact Nat.mod_lt _ (by decide)
      · decide
    obtain ⟨ou, hou⟩ : ∃ ou, outN ipa lv dk da = ou := ⟨_, rfl⟩
    rw [hou] at hout hol
    have HOU := Lib.hid hou
    have HOUT := Lib.hid hout
    clear hal hout hou HALL
    go_wp2_with fail
    (with_reducible refine hc.mono ?_)
    rintro e x4 ⟨rfl, hO4⟩
    have hxb := keep_old hO4 HX3.out.2.2.2
    obtain ⟨km, qm, zm⟩ := of_block hxb
    have HO4 := Lib.hid (And.intro hO4 hxb)
    have hc := HOUT.out x4
    have hd1 : ((ou / 4096 : Nat) : Int) = (ou : Int) / 4096 := by omega
    have hd2 : (ou : Int) / 4096 < 9223372036854775808 := by omega
    have hd3 : (0 : Int) ≤ (ou : Int) / 4096 := by omega
    clear hO4 hxb hol
    go_wp2_with fail
    (with_reducible refine hc.mono ?_)
    rintro e x5 ⟨rfl, hO5⟩
    have hO45 := old_then HO4.out.1 hO5
    have KL := keep_old hO5 HO4.out.2
    have K8 := keep_old hO45 HK3.out.1
    have K9 := keep_old hO45 HK3.out.2.1
    have KW := keep_old hO45 HK3.out.2.2.1
    have hm := memW_old HX3.out.1 hO45
    have ho := HX3.out.2.1.trans ((Only.of_below hO45).mono (G := fun b => ¬ (X b ∨ mb ≤ b) ∨ mb ≤ b) fun b _ f => f.elim)
    have HW3 := Lib.hid (And.intro hm ho)
    have HK5 := Lib.hid (And.intro KL (And.intro K8 (And.intro K9 KW)))
    clear hO5 hO45 KL K8 K9 KW hm ho hc km qm zm
    go_upto_region 19 with (fail)
    rw [show (ou : Int) / 4096 = ((ou / 4096 : Nat) : Int) by omega]
    obtain ⟨OF, hOF⟩ : ∃ OF, ou / 4096 = OF := ⟨_, rfl⟩
    obtain ⟨OI, hOI⟩ : ∃ OI, ipa / 4096 = OI := ⟨_, rfl⟩
    rw [hOF]
    have hoi : (ipa : Int) / 4096 = (OI : Int) := by omega
    have HQ9 : Hid (q = (⟨OF, OI, true, true, true, dr, dw, dx⟩, F0, n)) := Lib.hid (by rw [HQ6.out, HOU.out, hOF, hOI])
    clear hOF hOI hd1 hd2 hd3
    obtain ⟨KL, K8, K9, KW⟩ := HK5.out
    refine wp_region_staged (S := TwoS 10 11 b8 (.cells #[Value.int .i64 (OF : Nat), .int .u64 (OI : Nat), .bool true, .bool true, .bool true, .bool dr, .bool dw, .bool dx] 65) b9 (.cells #[Value.int .i64 0, .int .i64 0, .int .i64 0, .int .u64 0, .bool false] 67) x5.drew) 13 (by kernel_rfl) (by kernel_rfl) (by kernel_rfl) (by decide) (two_start _) ?_
    apply walkedS_cons
    · intro l9 wS hz hn hS
      have hS9 := two_other 0 (by decide) (by decide) hS
      clear hS
      go_wp2
      exact ⟨rfl, rfl, hS9⟩
    · rfl
    (try simp only [Act.put, List.setIfInBounds_toArray, List.set_cons_succ, List.set_cons_zero])
    apply walkedS_cons
    · intro l9 wS hz hn hS
      have hS9 := two_other 1 (by decide) (by decide) hS
      clear hS
      go_wp2
      exact ⟨rfl, rfl, hS9⟩
    · rfl
    (try simp only [Act.put, List.setIfInBounds_toArray, List.set_cons_succ, List.set_cons_zero])
    apply walkedS_cons
    · intro l9 wS hz hn hS
      have hS9 := two_other 2 (by decide) (by decide) hS
      clear hS
      go_wp2
      exact ⟨rfl, rfl, hS9⟩
    · rfl
    (try simp only [Act.put, List.setIfInBounds_toArray, List.set_cons_succ, List.set_cons_zero])
    apply walkedS_cons
    · intro l9 wS hz hn hS
      have hS9 := two_other 3 (by decide) (by decide) hS
      clear hS
      go_wp2
      exact ⟨rfl, rfl, hS9⟩
    · rfl
    (try simp only [Act.put, List.setIfInBounds_toArray, List.set_cons_succ, List.set_cons_zero])
    apply walkedS_cons
    · intro l9 wS hz hn hS
      have hS9 := two_other 4 (by decide) (by decide) hS
      clear hS
      go_wp2
      exact ⟨rfl, rfl, hS9⟩
    · rfl
    (try simp only [Act.put, List.setIfInBounds_toArray, List.set_cons_succ, List.set_cons_zero])
    apply walkedS_cons
    · intro l9 wS hz hn hS
      have hS9 := two_other 5 (by decide) (by decide) hS
      clear hS
      go_wp2
      exact ⟨rfl, rfl, hS9⟩
    · rfl
    (try simp only [Act.put, List.setIfInBounds_toArray, List.set_cons_succ, List.set_cons_zero])
    apply walkedS_cons
    · intro l9 wS hz hn hS
      have hS9 := two_other 6 (by decide) (by decide) hS
      have c9 := two_cell hS (show bl ≠ b8 by have := HX3.out.2.2.1; omega) (show bl ≠ b9 by have := HX3.out.2.2.1; omega) KL
      clear hS
      go_wp2
      exact ⟨rfl, rfl, hS9⟩
    · rfl
    (try simp only [Act.put, List.setIfInBounds_toArray, List.set_cons_succ, List.set_cons_zero])
    apply walkedS_cons
    · intro l9 wS hz hn hS
      have hS9 := two_other 7 (by decide) (by decide) hS
      clear hS
      go_wp2
      exact ⟨rfl, rfl, hS9⟩
    · rfl
    (try simp only [Act.put, List.setIfInBounds_toArray, List.set_cons_succ, List.set_cons_zero])
    apply walkedS_cons
    · intro l9 wS hz hn hS
      have hS9 := two_other 8 (by decide) (by decide) hS
      clear hS
      go_wp2
      exact ⟨rfl, rfl, hS9⟩
    · rfl
    (try simp only [Act.put, List.setIfInBounds_toArray, List.set_cons_succ, List.set_cons_zero])
    apply walkedS_cons
    · intro l9 wS hz hn hS
      have hS9 := two_other 9 (by decide) (by decide) hS
      have c9 := two_cell hS (show wb ≠ b8 by have := HWB.out.1; omega) (show wb ≠ b9 by have := HWB.out.1; omega) KW
      clear hS
      go_wp2
      exact ⟨rfl, rfl, hS9⟩
    · rfl
    (try simp only [Act.put, List.setIfInBounds_toArray, List.set_cons_succ, List.set_cons_zero])
    apply walkedS_cons
    · intro l9 wS hz hn hS
      have hb9 := two_first hn hS HNE.out.1 K8
      have hd9 := two_done1 hz (by decide) (by decide) hn HNE.out.1 hS
      refine wpList_store_whole rfl 65 _ _ rfl b8 [Value.int .i64 (OF : Nat), .int .u64 (OI : Nat), .bool true, .bool true, .bool true, .bool dr, .bool dw, .bool dx] rfl rfl 65 _ hb9 (by kernel_rfl) rfl (by intro v hv; simp only [List.mem_cons, List.not_mem_nil, or_false] at hv; rcases hv with rfl | rfl | rfl | rfl | rfl | rfl | rfl | rfl <;> rfl) ?_
      exact ⟨rfl, rfl, hd9⟩
    · rfl
    (try simp only [Act.put, List.setIfInBounds_toArray, List.set_cons_succ, List.set_cons_zero])
    apply walkedS_cons
    · intro l9 wS hz hn hS
      have hb9 := two_second hn hS HNE.out.1 K9
      have hd9 := two_done2 hz (by decide) (by decide) hn hS
      refine wpList_store_whole rfl 67 _ _ rfl b9 [Value.int .i64 0, .int .i64 0, .int .i64 0, .int .u64 0, .bool false] rfl rfl 67 _ hb9 (by kernel_rfl) rfl (by intro v hv; simp only [List.mem_cons, List.not_mem_nil, or_false] at hv; rcases hv with rfl | rfl | rfl | rfl | rfl <;> rfl) ?_
      exact ⟨rfl, rfl, hd9⟩
    · rfl
    (try simp only [Act.put, List.setIfInBounds_toArray, List.set_cons_succ, List.set_cons_zero])
    apply walkedS_cons
    · intro l9 wS hz hn hS
      have hS9 := two_other 12 (by decide) (by decide) hS
      clear hS
      go_wp2
      exact ⟨rfl, rfl, hS9⟩
    · rfl
    (try simp only [Act.put, List.setIfInBounds_toArray, List.set_cons_succ, List.set_cons_zero])
    apply walkedS_nil
    intro l9 wS hz hall hS
    obtain rfl := two_all (hall 10 (by decide)) (hall 11 (by decide)) hS
    clear hS hall hz l9
    show wpList _ _ _ [] _ _
    go_wp2
    have r8 : (putB (putB x5.drew b8 (.cells #[Value.int .i64 (OF : Nat), .int .u64 (OI : Nat), .bool true, .bool true, .bool true, .bool dr, .bool dw, .bool dx] 65)) b9 (.cells #[Value.int .i64 0, .int .i64 0, .int .i64 0, .int .u64 0, .bool false] 67)).heap[b8]? = some (.cells #[Value.int .i64 (OF : Nat), .int .u64 (OI : Nat), .bool true, .bool true, .bool true, .bool dr, .bool dw, .bool dx] 65) := by rw [putB_other _ (Ne.symm HNE.out.1)]; exact putB_same _ (lt_of_block (show x5.drew.heap[b8]? = _ from K8))
    have r9 : (putB (putB x5.drew b8 (.cells #[Value.int .i64 (OF : Nat), .int .u64 (OI : Nat), .bool true, .bool true, .bool true, .bool dr, .bool dw, .bool dx] 65)) b9 (.cells #[Value.int .i64 0, .int .i64 0, .int .i64 0, .int .u64 0, .bool false] 67)).heap[b9]? = some (.cells #[Value.int .i64 0, .int .i64 0, .int .i64 0, .int .u64 0, .bool false] 67) := putB_same _ (by rw [putB_size]; exact lt_of_block (show x5.drew.heap[b9]? = _ from K9))
    obtain ⟨k8, -, -⟩ := of_block r8
    obtain ⟨k9, -, -⟩ := of_block r9
    refine bodyPost_ret (by simp [results, Try.results33, go_sem, k8, k9]; try rfl) rfl ?_
    exact retSec_end HB.out.1 HW3.out.1 (Nat.le_refl _) HW3.out.2 HNE.out.2.2.2.2.1 HNE.out.2.2.2.2.2 HQ9.out
end Go.Proofs.Ytlbehhbicmmdoaa

