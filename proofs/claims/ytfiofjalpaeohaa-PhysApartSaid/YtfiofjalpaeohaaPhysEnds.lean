/- The statement PhysEnds: its walk. -/
import Derived.Test.YtfiofjalpaeohaaPhysTold
import Derived.Test.YtfiofjalpaeohaaBits
namespace Go.Proofs.Ytfiofjalpaeohaa
set_option linter.unusedVariables false
set_option linter.unusedSimpArgs false
open Go.RowKit

theorem wf_nat64 {x : Int} (h : (Lit.int .u64 x).wf = true) : ∃ n : Nat, x = n ∧ n < 18446744073709551616 := by
  simp only [Lit.wf, Bool.and_eq_true, decide_eq_true_eq] at h
  have e1 : IntKind.u64.min = 0 := rfl
  have e2 : IntKind.u64.max = 18446744073709551615 := rfl
  rw [e1, e2] at h
  exact ⟨x.toNat, by omega, by omega⟩
theorem i64_mask20 (n : Int) : bits .and .i64 n 1048575 = n % 1048576 := by
  have h0 : (BitVec.ofInt 64 1048575).toNat = 2 ^ 20 - 1 := by decide
  have key : (BitVec.ofInt 64 n &&& BitVec.ofInt 64 1048575).toNat = (n % ((2 ^ 64 : Nat) : Int)).toNat % 2 ^ 20 := by
    rw [BitVec.toNat_and, BitVec.toNat_ofInt, h0, Nat.and_two_pow_sub_one_eq_mod]
  show IntKind.i64.wrap ((BitVec.ofInt 64 n &&& BitVec.ofInt 64 1048575).toNat : Nat) = n % 1048576
  rw [key, IntKind.wrap_i64]
  omega
theorem less_seven (x : Nat) (hx : x < 18446744073709551616) : bits .andNot .u64 (x : Int) 7 = ((x / 8 * 8 : Nat) : Int) := by
  rw [show (7 : Int) = ((7 : Nat) : Int) from rfl, bits_andNot_u64_nat x 7 hx (by decide)]
  have : lessN x 7 = x / 8 * 8 := by
    refine Nat.eq_of_testBit_eq fun i => ?_
    rw [lessN_bit, show (8 : Nat) = 2 ^ 3 from rfl, Nat.testBit_mul_two_pow, Nat.testBit_div_two_pow, show (7 : Nat) = 2 ^ 3 - 1 from rfl, Nat.testBit_two_pow_sub_one]
    by_cases h : 3 ≤ i
    · rw [show i - 3 + 3 = i by omega]
      simp [h]
    · simp [h]; omega
  rw [this]
/-- A right size. -/
def SizeOk (s : Nat) : Prop := s = 1 ∨ s = 2 ∨ s = 4 ∨ s = 8
theorem check_zero4 {at_ s : Nat} (hs : SizeOk s) (hd : at_ % s = 0) (hl : at_ + s ≤ 4096) : checkN 4096 (at_ : Int) (s : Int) = 0 := by
  refine checkN_ok (by unfold SizeOk at hs; omega) ?_ (by omega)
  rw [← Int.natCast_emod, hd]; rfl
theorem place_zero {n addr s : Nat} (hs : SizeOk s) (hd : addr % 4096 % s = 0) (hl : addr % 4096 + s ≤ 4096) (hn : addr / 4096 < n) : placeE n addr s = 0 := by
  have := check_zero4 hs hd hl
  unfold placeE
  rw [if_neg (fun h => h this), if_neg (by omega)]
theorem place_two {n addr s : Nat} (hs : SizeOk s) (hd : addr % 4096 % s = 0) (hl : addr % 4096 + s ≤ 4096) (hn : n ≤ addr / 4096) : placeE n addr s = 2 := by
  have := check_zero4 hs hd hl
  unfold placeE
  rw [if_neg (fun h => h this), if_pos hn]
theorem size_div {a s : Nat} (hs : SizeOk s) (h : a % 8 = 0) : a % s = 0 := by
  unfold SizeOk at hs
  rcases hs with rfl | rfl | rfl | rfl <;> omega

set_option maxHeartbeats 8000000 in
set_option maxRecDepth 100000 in
theorem physEnds_walk (f : Int) (_ : (Lit.int .i64 f).wf = true) (oi : Int) (ho0 : (Lit.int .u64 oi).wf = true) (k : Int) (_ : (Lit.int .i64 k).wf = true) (w : World) :
    Calls Try.prog 8 #[.int .i64 f, .int .u64 oi, .int .i64 k] w (RetB w (.bool true)) := by
  obtain ⟨over, rfl, hover⟩ := wf_nat64 ho0
  obtain ⟨nm, hnm, hn0⟩ : ∃ nm : Nat, bits .and .i64 f 1048575 = (nm : Int) ∧ nm < 1048576 := ⟨(f % 1048576).toNat, by rw [i64_mask20]; omega, by omega⟩
  obtain ⟨s, K, hK, hKs, hs⟩ : ∃ (s : Nat) (K : Int), bits .and .i64 k 3 = K ∧ ((K = 0 ∧ s = 1) ∨ (K = 1 ∧ s = 2) ∨ (K = 2 ∧ s = 4) ∨ (K = 3 ∧ s = 8)) ∧ SizeOk s := by
    have h4 : k % 4 = 0 ∨ k % 4 = 1 ∨ k % 4 = 2 ∨ k % 4 = 3 := by omega
    rcases h4 with h | h | h | h
    · exact ⟨1, 0, by rw [i64_mask3, h], .inl ⟨rfl, rfl⟩, .inl rfl⟩
    · exact ⟨2, 1, by rw [i64_mask3, h], .inr (.inl ⟨rfl, rfl⟩), .inr (.inl rfl)⟩
    · exact ⟨4, 2, by rw [i64_mask3, h], .inr (.inr (.inl ⟨rfl, rfl⟩)), .inr (.inr (.inl rfl))⟩
    · exact ⟨8, 3, by rw [i64_mask3, h], .inr (.inr (.inr ⟨rfl, rfl⟩)), .inr (.inr (.inr rfl))⟩
  have hl7 := less_seven over hover
  obtain ⟨n, hn⟩ : ∃ n, n = 1 + nm := ⟨_, rfl⟩
  have hn1 : 1 ≤ n ∧ n ≤ 1048576 := by omega
  have hnc : (1 : Int) + (nm : Int) = n := by omega
  have hnew : Calls Try.prog 47 #[.int .i64 n] w (fun e y => ∃ p, e = .returned (.tuple #[.pointer (some ⟨p, 0, none⟩), .int .i64 0]) ∧ MAt w p n (fun _ => none) 0 y) := mat_new w w n hn1.1 hn1.2 (old_refl w)
  have hs8 : 1 ≤ s ∧ s ≤ 8 := by unfold SizeOk at hs; omega
  have p1 : placeE n (n * 4096 - s) s = 0 := place_zero hs (by unfold SizeOk at hs; rcases hs with rfl | rfl | rfl | rfl <;> omega) (by omega) (by omega)
  have p2 : placeE n (n * 4096) s = 2 := place_two hs (size_div hs (by omega)) (by omega) (by omega)
  obtain ⟨far, hfar⟩ : ∃ far, far = if over / 8 * 8 < n * 4096 then n * 4096 + over / 8 * 8 else over / 8 * 8 := ⟨_, rfl⟩
  have hfl : n * 4096 ≤ far ∧ far % 8 = 0 ∧ far < 18446744073709551616 := by
    rw [hfar]; split <;> omega
  have p3 : placeE n far s = 2 := place_two hs (size_div hs (by omega)) (by omega) (by omega)
  have b1 : hasB n n = false := by unfold hasB; simp
  have b2 : (hasB n n && allZero (pageOf (fun _ => none) n)) = false := by rw [b1]; rfl
  have b3 : (hasB n (-1) && allZero (pageOf (fun _ => none) (-1))) = false := by unfold hasB; rfl
  have ht := told5_calls
  have P1 := Lib.hid p1
  have P2 := Lib.hid p2
  have P3 := Lib.hid p3
  have B1 := Lib.hid b1
  have B2 := Lib.hid b2
  have B3 := Lib.hid b3
  have HN := Lib.hid hn1
  have HS := Lib.hid hs8
  have HKS := Lib.hid hKs
  have HF := Lib.hid hfar
  have HFL := Lib.hid hfl
  have HT := Lib.hid ht
  have i1 : (1 : Int) ≤ n := by omega
  have i2 : (n : Int) ≤ 1048576 := by omega
  have i3 : (nm : Int) ≤ 1048575 := by omega
  have HL7 := Lib.hid hl7
  have HOV := Lib.hid hover
  clear ho0 p1 p2 p3 b1 b2 b3 hn1 hs8 hKs hfar hfl hs ht hn hl7 hover
  go_enter Try.func8, Try.ntmps8
  go_wp2_with fail
  (with_reducible refine hnew.mono ?_)
  rintro e x1 ⟨p, rfl, hM⟩
  have HM := Lib.hid hM
  clear hnew hM hnm hnc
  go_upto_region 7 with (fail)
  go_cut [10] (fun s10 wx => s10 = .int .i64 (s : Nat) ∧ wx = x1)
  case first =>
    rcases HKS.out with ⟨rfl, rfl⟩ | ⟨rfl, rfl⟩ | ⟨rfl, rfl⟩ | ⟨rfl, rfl⟩
    all_goals
      go_wp2
      go_meet
      case rel => exact ⟨rfl, rfl⟩
  case rest =>
  obtain ⟨rfl, rfl⟩ := hcut
  clear hK
  have hen : IntKind.u64.wrap ((n : Int) * 4096) = (n : Int) * 4096 := IntWalk.u64_in _ (by omega)
  have hnc : IntKind.u64.wrap (n : Int) = n := IntWalk.u64_in _ (by omega)
  have hsc : IntKind.u64.wrap (s : Int) = s := by have := HS.out; exact IntWalk.u64_in _ (by omega)
  have hsb : IntKind.u64.wrap ((n : Int) * 4096 - (s : Int)) = ((n * 4096 - s : Nat) : Int) := by have := HS.out; have := HN.out; rw [IntWalk.u64_in _ (by omega)]; omega
  have hE : (n : Int) * 4096 = ((n * 4096 : Nat) : Int) := by omega
  rw [hE] at hen hsb
  have hc1 := mat_read HM.out (n * 4096 - s) (by have := HN.out; omega) s P1.out (by decide)
  have hc2 := fun x (hM : MAt w p n (fun _ => none) 1 x) => mat_readE hM (n * 4096) (by have := HN.out; omega) s 2 P2.out (by decide)
  generalize n * 4096 - s = es at *
  generalize hEN : n * 4096 = en at *
  have HEN := Lib.hid hEN
  have HC2 := Lib.hid hc2
  have HSB := Lib.hid hsb
  clear hc2 HM hEN
  go_wp2_with fail
  (with_reducible refine hc1.mono ?_)
  rintro e x2 ⟨rfl, hM⟩
  have hc2 := HC2.out _ hM
  clear hc1 hM hsb hsc hnc hen
  go_wp2_with fail
  (with_reducible refine hc2.mono ?_)
  rintro e x3 ⟨rfl, hM⟩
  have HM3 := Lib.hid hM
  have hl7 := HL7.out
  obtain ⟨o8, ho8⟩ : ∃ o8, over / 8 * 8 = o8 := ⟨_, rfl⟩
  rw [ho8] at hl7
  have HO8 := Lib.hid ho8
  clear hc2 hM ho8
  go_upto_if 66 with (fail)
  clear hl7
  go_cut [16] (fun s16 wx => s16 = .int .u64 (far : Nat) ∧ wx = x3)
  case first =>
    have hfar := HF.out
    rw [HO8.out] at hfar
    have hfl := HFL.out
    have h78 : o8 / 8 * 8 = o8 := by have := HO8.out; omega
    have hl7 := less_seven o8 (by have := HO8.out; have := HOV.out; omega)
    rw [h78] at hl7
    by_cases hlt : o8 < en
    · rw [if_pos hlt] at hfar
      have hsum : IntKind.u64.wrap ((en : Int) + (o8 : Int)) = (far : Int) := by rw [IntWalk.u64_in _ (by omega)]; omega
      have hlt2 : decide (o8 < en) = true := by simp [hlt]
      have hlt3 : decide ((o8 : Int) < (en : Int)) = true := by simp; omega
      have hlt4 : (o8 : Int) < (en : Int) := by omega
      clear hfar hfl h78 hlt
      go_wp2
      go_meet
      case rel => exact ⟨rfl, rfl⟩
    · rw [if_neg hlt] at hfar
      have hlt2 : decide (o8 < en) = false := by simp; omega
      have hlt3 : decide ((o8 : Int) < (en : Int)) = false := by simp; omega
      have hlt4 : (en : Int) ≤ (o8 : Int) := by omega
      subst hfar
      clear hfl h78 hl7 hlt
      go_wp2
      go_meet
      case rel => exact ⟨rfl, rfl⟩
  case rest =>
  obtain ⟨rfl, rfl⟩ := hcut
  have hc := mat_readE HM3.out far HFL.out.2.2 s 2 P3.out (by decide)
  clear HM3
  go_wp2_with fail
  (with_reducible refine hc.mono ?_)
  rintro e x4 ⟨rfl, hM⟩
  have hc := mat_writeE hM far HFL.out.2.2 s 1 2 P3.out (by decide)
  clear hM
  go_wp2_with fail
  (with_reducible refine hc.mono ?_)
  rintro e x5 ⟨rfl, hM⟩
  have hc := mat_getE hM n B1.out
  clear hM
  go_wp2_with fail
  (with_reducible refine hc.mono ?_)
  rintro e x6 ⟨rfl, hM⟩
  have HM6 := Lib.hid hM
  clear hM hc
  go_wp2_with fail
  (with_reducible refine (HT.out _).mono ?_)
  rintro e x7 ⟨rfl, hO7⟩
  have hM := mat_old HM6.out hO7
  have hc := mat_ops hM
  clear hO7 HM6 hM
  go_wp2_with fail
  (with_reducible refine hc.mono ?_)
  rintro e x8 ⟨rfl, hM⟩
  have hc := mat_clear hM n false B2.out
  clear hM
  go_wp2_with fail
  (with_reducible refine hc.mono ?_)
  rintro e x9 ⟨rfl, hM⟩
  have hc := mat_clear hM (-1) false B3.out
  clear hM
  go_wp2_with fail
  (with_reducible refine hc.mono ?_)
  rintro e x10 ⟨rfl, hM⟩
  have HO := Lib.hid hM.2
  clear hM hc
  go_wp2
  go_ret
  exact ⟨rfl, HO.out⟩
end Go.Proofs.Ytfiofjalpaeohaa
