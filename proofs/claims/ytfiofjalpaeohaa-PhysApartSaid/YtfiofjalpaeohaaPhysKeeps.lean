/- The statement PhysKeeps: its walk. -/
import Derived.Test.YtfiofjalpaeohaaPhysEnds
import Derived.Test.YtfiofjalpaeohaaPutGet
namespace Go.Proofs.Ytfiofjalpaeohaa
set_option linter.unusedVariables false
set_option linter.unusedSimpArgs false
open Go.RowKit

theorem i64_and_le (n : Int) (b : Nat) (hb : b < 9223372036854775808) : ∃ m : Nat, bits .and .i64 n (b : Int) = (m : Int) ∧ m ≤ b := by
  refine ⟨(BitVec.ofInt 64 n &&& BitVec.ofInt 64 (b : Int)).toNat, ?_, ?_⟩
  · show IntKind.i64.wrap ((BitVec.ofInt 64 n &&& BitVec.ofInt 64 (b : Int)).toNat : Int) = _
    have h : (BitVec.ofInt 64 n &&& BitVec.ofInt 64 (b : Int)).toNat ≤ b := by
      rw [BitVec.toNat_and, BitVec.ofInt_natCast, BitVec.toNat_ofNat, Nat.mod_eq_of_lt (by omega)]
      exact Nat.and_le_right
    exact IntWalk.i64_in _ (by omega)
  · rw [BitVec.toNat_and, BitVec.ofInt_natCast, BitVec.toNat_ofNat, Nat.mod_eq_of_lt (by omega)]
    exact Nat.and_le_right

section
variable {n a v s : Nat}
theorem keeps_place (hs : SizeOk s) (ha8 : a % 8 = 0) (haE : a < n * 4096) (m : Nat) (hm : m ≤ 8) (hsm : s ≤ m) (hms : m % s = 0) : placeE n (a + (m - s)) s = 0 := by
  unfold SizeOk at hs
  refine place_zero hs ?_ ?_ ?_
  · rcases hs with rfl | rfl | rfl | rfl <;> omega
  · rcases hs with rfl | rfl | rfl | rfl <;> omega
  · omega
end
theorem pageOf_upd (pg : Int → Option (List Nat)) (k : Int) (l : List Nat) : pageOf (updP pg k (some l)) k = l := by unfold pageOf updP; rw [if_pos rfl]; rfl
theorem pageOf_upd0 (pg : Int → Option (List Nat)) (k : Int) : pageOf (updP pg k none) k = zeros4096 := by unfold pageOf updP; rw [if_pos rfl]; rfl
theorem pageOf_other (pg : Int → Option (List Nat)) (k j : Int) (o : Option (List Nat)) (h : j ≠ k) : pageOf (updP pg k o) j = pageOf pg j := by unfold pageOf updP; rw [if_neg h]
theorem zeros_mem : ∀ x ∈ zeros4096, x = 0 := fun x hx => List.eq_of_mem_replicate hx
theorem hasB_yes {n k : Nat} (h : k < n) : hasB n (k : Int) = true := by unfold hasB; simp; omega
theorem allZero_iff (l : List Nat) : allZero l = decide (∀ x ∈ l, x = 0) := by
  unfold allZero
  rw [Bool.eq_iff_iff, List.all_eq_true, decide_eq_true_iff]
  constructor
  · intro h x hx; simpa using h x hx
  · intro h x hx; simpa using h x hx

set_option maxHeartbeats 8000000 in
set_option maxRecDepth 100000 in
theorem physKeeps_walk (f : Int) (_ : (Lit.int .i64 f).wf = true) (ati : Int) (ha0 : (Lit.int .u64 ati).wf = true) (k : Int) (_ : (Lit.int .i64 k).wf = true) (vi : Int) (hv0 : (Lit.int .u64 vi).wf = true) (w : World) :
    Calls Try.prog 11 #[.int .i64 f, .int .u64 ati, .int .i64 k, .int .u64 vi] w (RetB w (.bool true)) := by
  obtain ⟨at_, rfl, hat⟩ := wf_nat64 ha0
  obtain ⟨v, rfl, hv⟩ := wf_nat64 hv0
  obtain ⟨nm, hnm, hn0⟩ := i64_and_le f 1048573 (by decide)
  obtain ⟨s, K, hK, hKs, hs⟩ : ∃ (s : Nat) (K : Int), bits .and .i64 k 3 = K ∧ ((K = 0 ∧ s = 1) ∨ (K = 1 ∧ s = 2) ∨ (K = 2 ∧ s = 4) ∨ (K = 3 ∧ s = 8)) ∧ SizeOk s := by
    have h4 : k % 4 = 0 ∨ k % 4 = 1 ∨ k % 4 = 2 ∨ k % 4 = 3 := by omega
    rcases h4 with h | h | h | h
    · exact ⟨1, 0, by rw [i64_mask3, h], .inl ⟨rfl, rfl⟩, .inl rfl⟩
    · exact ⟨2, 1, by rw [i64_mask3, h], .inr (.inl ⟨rfl, rfl⟩), .inr (.inl rfl)⟩
    · exact ⟨4, 2, by rw [i64_mask3, h], .inr (.inr (.inl ⟨rfl, rfl⟩)), .inr (.inr (.inl rfl))⟩
    · exact ⟨8, 3, by rw [i64_mask3, h], .inr (.inr (.inr ⟨rfl, rfl⟩)), .inr (.inr (.inr rfl))⟩
  obtain ⟨S, hSs⟩ : ∃ S : Int, S = (s : Int) := ⟨_, rfl⟩
  obtain ⟨n, hn⟩ : ∃ n, n = 2 + nm := ⟨_, rfl⟩
  have hn1 : 2 ≤ n ∧ n ≤ 1048576 := by omega
  have hnew : Calls Try.prog 47 #[.int .i64 n] w (fun e y => ∃ p, e = .returned (.tuple #[.pointer (some ⟨p, 0, none⟩), .int .i64 0]) ∧ MAt w p n (fun _ => none) 0 y) := mat_new w w n (by omega) hn1.2 (old_refl w)
  have hnc : (2 : Int) + (nm : Int) = n := by omega
  have hnm : bits .and .i64 f 1048573 = (nm : Int) := hnm
  obtain ⟨b, hb⟩ : ∃ b, b = at_ % (n * 4096) := ⟨_, rfl⟩
  have hbl : b < n * 4096 := by rw [hb]; exact Nat.mod_lt _ (by omega)
  have hb64 : b < 18446744073709551616 := by omega
  obtain ⟨a, ha⟩ : ∃ a, a = b / 8 * 8 := ⟨_, rfl⟩
  have ha8 : a % 8 = 0 ∧ a < n * 4096 := by omega
  obtain ⟨W, hW⟩ : ∃ W, W = wroteOf (fun _ => none) a 8 v := ⟨_, rfl⟩
  have hWp : W = putL zeros4096 (a % 4096) v 8 := hW
  obtain ⟨fr, hfr⟩ : ∃ fr, fr = a / 4096 := ⟨_, rfl⟩
  have hfrn : fr < n := by omega
  have hW8 : a % 4096 + 8 ≤ zeros4096.length := by rw [zeros4096_length]; omega
  have hWl : W.length = 4096 := by rw [hWp, putL_length, zeros4096_length]
  obtain ⟨pg1, hpg1⟩ : ∃ pg1 : Int → Option (List Nat), pg1 = updP (fun _ => none) (fr : Int) (some W) := ⟨_, rfl⟩
  have hword : ∀ m : Nat, m ≤ 8 → s ≤ m → wordOf pg1 (a + (m - s)) S = v / 2 ^ (8 * (m - s)) % 2 ^ (8 * s) := by
    intro m hm hsm
    rw [hSs]
    unfold wordOf
    have hs1 : 1 ≤ s := by unfold SizeOk at hs; omega
    have e1 : (a + (m - s)) / 4096 = fr := by omega
    have e2 : (a + (m - s)) % 4096 = a % 4096 + (m - s) := by omega
    rw [e1, e2, hpg1, pageOf_upd, hWp]
    exact get_put_part zeros4096 (a % 4096) v (m - s) s (by omega) hW8
  have hpl : ∀ m : Nat, m ≤ 8 → s ≤ m → m % s = 0 → placeE n (a + (m - s)) S = 0 := fun m hm hsm hms => by rw [hSs]; exact keeps_place hs ha8.1 ha8.2 m hm hsm hms
  have hpl8 : placeE n a 8 = 0 := by
    have := keeps_place (s := 8) (.inr (.inr (.inr rfl))) ha8.1 ha8.2 8 (by omega) (by omega) (by omega)
    simpa using this
  have HK := Lib.hid hKs
  have HN := Lib.hid hn1
  have HS := Lib.hid hs
  have HSs := Lib.hid hSs
  have HA := Lib.hid (And.intro ha8 (And.intro hfr hfrn))
  have HB := Lib.hid (And.intro hb (And.intro hbl ha))
  have HW := Lib.hid (And.intro hW (And.intro hWp hWl))
  have HP := Lib.hid hpg1
  have HWord := Lib.hid hword
  have HPl := Lib.hid hpl
  have HPl8 := Lib.hid hpl8
  have HV := Lib.hid hv
  have HT := Lib.hid told5_calls
  have i1 : (2 : Int) ≤ n := by omega
  have i2 : (n : Int) ≤ 1048576 := by omega
  have i3 : (nm : Int) ≤ 1048573 := by omega
  clear ha0 hv0 hKs hn1 hs hSs ha8 hfr hfrn hb hbl ha hW hWp hWl hpg1 hword hpl hpl8 hv hn hn0 hW8 hat hb64
  go_enter Try.func11, Try.ntmps11
  go_wp2_with fail
  (with_reducible refine hnew.mono ?_)
  rintro e x1 ⟨p, rfl, hM⟩
  have HM := Lib.hid hM
  clear hnew hM hnm hnc i3
  go_upto_region 5 with (fail)
  go_cut [12] (fun s12 wx => s12 = .int .i64 S ∧ wx = x1)
  case first =>
    have hkk := HK.out
    have hss := HSs.out
    rcases hkk with ⟨rfl, rfl⟩ | ⟨rfl, rfl⟩ | ⟨rfl, rfl⟩ | ⟨rfl, rfl⟩
    all_goals
      subst hss
      go_wp2
      go_meet
      case rel => exact ⟨rfl, rfl⟩
  case rest =>
  obtain ⟨rfl, rfl⟩ := hcut
  clear hK
  have hen : IntKind.u64.wrap ((n : Int) * 4096) = ((n * 4096 : Nat) : Int) := by rw [IntWalk.u64_in _ (by omega)]; omega
  have hnc : IntKind.u64.wrap (n : Int) = n := IntWalk.u64_in _ (by omega)
  have hE : (n : Int) * 4096 = ((n * 4096 : Nat) : Int) := by omega
  have hbI : (at_ : Int) % ((n * 4096 : Nat) : Int) = ((b : Nat) : Int) := by rw [HB.out.1]; rfl
  have hn0 : ¬ ((n * 4096 : Nat) : Int) = 0 := by omega
  have hless := less_seven b (by have := HB.out.2.1; omega)
  rw [← HB.out.2.2] at hless
  generalize hEN : n * 4096 = en at *
  have HEN := Lib.hid hEN
  clear hEN
  have hc := mat_write HM.out a (by have := HA.out.1.2; have := HEN.out; omega) 8 v HPl8.out (by decide)
  rw [← HW.out.1, ← HA.out.2.1, ← HP.out] at hc
  clear HM
  go_wp2_with fail
  (with_reducible refine hc.mono ?_)
  rintro e x2 ⟨rfl, hM⟩
  have HM2 := Lib.hid hM
  have hs1 : (1 : Int) ≤ S := by have := HS.out; have := HSs.out; unfold SizeOk at *; omega
  have hs8 : S ≤ 8 := by have := HS.out; have := HSs.out; unfold SizeOk at *; omega
  clear hc hM hless hbI hn0 hen
  obtain ⟨I8, hI8⟩ : ∃ I8 : Int, (8 : Int) - S = I8 := ⟨_, rfl⟩
  have HI8 := Lib.hid hI8
  go_wp2
  clear hI8
  go_loopw [14, 15, 16, 17] (fun xx ii _ _ wr => ∃ (m ops : Nat), m ≤ 8 ∧ m % s = 0 ∧ ii = .int .i64 ((m : Int) - S) ∧ xx = .int .u64 ((v / 2 ^ (8 * m) : Nat) : Int) ∧ ops + m ≤ 9 ∧ MAt w p n pg1 ops wr) (fun _ ii _ _ _ => (intOf ii + 9).toNat)
  case atStart =>
    refine ⟨8, 1, by omega, ?_, by rw [← HI8.out]; rfl, ?_, by omega, HM2.out⟩
    · have := HS.out; unfold SizeOk at this; rcases this with rfl | rfl | rfl | rfl <;> rfl
    · have h := HV.out
      have : v / 2 ^ (8 * 8) = 0 := Nat.div_eq_of_lt (by simpa using h)
      rw [this]; rfl
  case round =>
  clear HM2
  obtain ⟨m, ops, hm8, hms, rfl, rfl, hops, hM⟩ := hrel
  by_cases hm0 : m = 0
  case neg =>
    have hsm : s ≤ m := by
      have := HS.out
      unfold SizeOk at this
      rcases this with rfl | rfl | rfl | rfl <;> omega
    have hw := HWord.out m hm8 hsm
    have hc := mat_read hM (a + (m - s)) (by have := HA.out.1.2; have := HEN.out; omega) S (HPl.out m hm8 hsm hms) (by omega)
    rw [hw] at hc
    have hadd : IntKind.u64.wrap ((a : Int) + ((m : Int) - S)) = ((a + (m - s) : Nat) : Int) := by have := HSs.out; have := HA.out.1.2; have := HEN.out; rw [IntWalk.u64_in _ (by omega)]; omega
    have hsub : IntKind.u64.wrap ((m : Int) - S) = (m : Int) - S := IntWalk.u64_in _ (by have := HSs.out; omega)
    have hge : (0 : Int) ≤ (m : Int) - S := by have := HSs.out; omega
    have hor := or_next v m s hsm HV.out
    have hxl : v / 2 ^ (8 * m) * 2 ^ (8 * s) ≤ v := by
      have h1 : 2 ^ (8 * s) ≤ 2 ^ (8 * m) := Nat.pow_le_pow_right (by decide) (by omega)
      exact Nat.le_trans (Nat.mul_le_mul_left _ h1) (Nat.div_mul_le_self _ _)
    have HNX : Hid (∃ m' : Nat, m' = m - s) := Lib.hid ⟨_, rfl⟩
    have hfin : ∀ (Z : Nat), Z = v / 2 ^ (8 * (m - s)) → ∀ (y : World), MAt w p n pg1 (ops + 1) y → ∃ (m' ops' : Nat), m' ≤ 8 ∧ m' % s = 0 ∧ Value.int IntKind.i64 ((m : Int) - S - S) = .int .i64 ((m' : Int) - S) ∧ Value.int IntKind.u64 (Z : Int) = .int .u64 ((v / 2 ^ (8 * m') : Nat) : Int) ∧ ops' + m' ≤ 9 ∧ MAt w p n pg1 ops' y := by
      intro Z hZ y hy
      have hs1' : 1 ≤ s := by have := HSs.out; omega
      have hss := HSs.out
      refine ⟨m - s, ops + 1, by omega, by rw [← Nat.mod_eq_sub_mod hsm]; exact hms, ?_, by rw [hZ], by omega, hy⟩
      congr 1
      omega
    have HX := Lib.hid (And.intro hxl hfin)
    have HOR := Lib.hid hor
    have HZ0 := Lib.hid (rfl : v / 2 ^ (8 * (m - s)) = v / 2 ^ (8 * (m - s)))
    obtain ⟨X, hX⟩ : ∃ X, X = v / 2 ^ (8 * m) := ⟨_, rfl⟩
    obtain ⟨Y, hY⟩ : ∃ Y, Y = v / 2 ^ (8 * (m - s)) % 2 ^ (8 * s) := ⟨_, rfl⟩
    obtain ⟨Z, hZ⟩ : ∃ Z, Z = v / 2 ^ (8 * (m - s)) := ⟨_, rfl⟩
    obtain ⟨A, hA⟩ : ∃ A, A = a + (m - s) := ⟨_, rfl⟩
    rw [← hA] at hadd hc
    rw [← hY] at hc
    rw [← hX]
    have HX2 := Lib.hid hX
    have HY2 := Lib.hid hY
    have HZ2 := Lib.hid hZ
    have HVs := Lib.hid hsm
    have HMs := Lib.hid hms
    clear hX hY hZ hA hw hor hxl hfin hsm hms hM HNX
    obtain ⟨XS, hXS⟩ : ∃ XS, XS = X * 2 ^ (8 * s) := ⟨_, rfl⟩
    have hxs : XS ≤ v := by rw [hXS, HX2.out]; exact HX.out.1
    have hor := HOR.out
    rw [← HX2.out, ← HY2.out, ← HZ2.out, ← hXS] at hor
    have hsh : ∀ q : Nat, q = 2 ^ (8 * s) → IntKind.u64.wrap ((X : Int) * (q : Int)) = (XS : Int) := by
      intro q hq
      have h2 := HV.out
      rw [show ((X : Int) * (q : Int)) = ((XS : Nat) : Int) by rw [hXS, hq]; push_cast; rfl]
      exact IntWalk.u64_in _ (by omega)
    have h08 : s = 8 → XS = 0 ∧ X = 0 := by
      intro h
      have hm : m = 8 := by have := HVs.out; omega
      have hx0 : X = 0 := by rw [HX2.out, hm]; exact Nat.div_eq_of_lt (by simpa using HV.out)
      exact ⟨by rw [hXS, hx0, Nat.zero_mul], hx0⟩
    have HSH := Lib.hid hsh
    have H08 := Lib.hid h08
    have HC4 : Hid ((S = 1 ∧ s = 1) ∨ (S = 2 ∧ s = 2) ∨ (S = 4 ∧ s = 4) ∨ (S = 8 ∧ s = 8)) := Lib.hid (by have := HS.out; have := HSs.out; unfold SizeOk at *; omega)
    clear hXS hxs hsh h08 hs1 hs8
    rcases HC4.out with ⟨h1, h2⟩ | ⟨h1, h2⟩ | ⟨h1, h2⟩ | ⟨h1, h2⟩
    · have hsh : IntKind.u64.wrap ((X : Int) * 256) = (XS : Int) := HSH.out 256 (by rw [h2])
      have H2 := Lib.hid h2
      subst h1
      clear h2
      go_wp2_with fail
      (with_reducible refine hc.mono ?_)
      rintro e x3 ⟨rfl, hM⟩
      have HM3 := Lib.hid hM
      clear hc hM
      go_wp2
      go_roundw
      case rel => exact HX.out.2 Z HZ2.out _ HM3.out
      case measure => (simp [intOf]) <;> omega
    · have hsh : IntKind.u64.wrap ((X : Int) * 65536) = (XS : Int) := HSH.out 65536 (by rw [h2])
      have H2 := Lib.hid h2
      subst h1
      clear h2
      go_wp2_with fail
      (with_reducible refine hc.mono ?_)
      rintro e x3 ⟨rfl, hM⟩
      have HM3 := Lib.hid hM
      clear hc hM
      go_wp2
      go_roundw
      case rel => exact HX.out.2 Z HZ2.out _ HM3.out
      case measure => (simp [intOf]) <;> omega
    · have hsh : IntKind.u64.wrap ((X : Int) * 4294967296) = (XS : Int) := HSH.out 4294967296 (by rw [h2])
      have H2 := Lib.hid h2
      subst h1
      clear h2
      go_wp2_with fail
      (with_reducible refine hc.mono ?_)
      rintro e x3 ⟨rfl, hM⟩
      have HM3 := Lib.hid hM
      clear hc hM
      go_wp2
      go_roundw
      case rel => exact HX.out.2 Z HZ2.out _ HM3.out
      case measure => (simp [intOf]) <;> omega
    · obtain ⟨z1, z2⟩ := H08.out h2
      rw [z1] at hor
      have hor : bits .or .u64 0 (Y : Int) = (Z : Int) := hor
      have H2 := Lib.hid h2
      subst h1 z2
      clear h2 z1
      go_wp2_with fail
      (with_reducible refine hc.mono ?_)
      rintro e x3 ⟨rfl, hM⟩
      have HM3 := Lib.hid hM
      clear hc hM
      go_wp2
      go_roundw
      case rel => exact HX.out.2 Z HZ2.out _ HM3.out
      case measure => (simp [intOf]) <;> omega
  case pos =>
  subst hm0
  have hge : decide ((0 : Int) ≤ ((0 : Nat) : Int) - S) = false := by simp; omega
  have hlt : ((0 : Nat) : Int) - S < 0 := by omega
  have hx : ((v / 2 ^ (8 * 0) : Nat) : Int) = (v : Int) := by simp
  rw [hx]
  have hfrI : (a : Int) / 4096 = (fr : Int) := by have := HA.out.2.1; omega
  have hfrn : fr < n := HA.out.2.2
  obtain ⟨ot, hot⟩ : ∃ ot, ot = (fr + 1) % n := ⟨_, rfl⟩
  have hotn : ot < n ∧ ot ≠ fr := by
    rw [hot]
    refine ⟨Nat.mod_lt _ (by omega), ?_⟩
    by_cases h : fr + 1 = n
    · rw [h, Nat.mod_self]; omega
    · rw [Nat.mod_eq_of_lt (by omega)]; omega
  have hotI : ((fr : Int) + 1) % (n : Int) = (ot : Int) := by rw [hot]; push_cast; rfl
  have hn0 : ¬ (n : Int) = 0 := by omega
  have h1 : hasB n fr = true := hasB_yes hfrn
  have h2 : hasB n ot = true := hasB_yes hotn.1
  have hp1 : pageOf pg1 (fr : Int) = W := by rw [HP.out, pageOf_upd]
  have hne : (ot : Int) ≠ (fr : Int) := by omega
  obtain ⟨pg2, hpg2⟩ : ∃ pg2 : Int → Option (List Nat), pg2 = updP pg1 (ot : Int) (some W) := ⟨_, rfl⟩
  obtain ⟨pg3, hpg3⟩ : ∃ pg3 : Int → Option (List Nat), pg3 = updP pg2 (fr : Int) none := ⟨_, rfl⟩
  have e1 : pageOf pg2 (fr : Int) = W := by rw [hpg2, pageOf_other _ _ _ _ (fun e => hne e.symm), hp1]
  have e2 : pageOf pg2 (ot : Int) = W := by rw [hpg2, pageOf_upd]
  have e3 : pageOf pg3 (fr : Int) = zeros4096 := by rw [hpg3, pageOf_upd0]
  have e4 : pageOf pg3 (ot : Int) = W := by rw [hpg3, pageOf_other _ _ _ _ hne, e2]
  have hsame : (hasB n fr && hasB n ot && decide (pageOf pg2 (fr : Int) = pageOf pg2 (ot : Int))) = true := by rw [h1, h2, e1, e2]; simp
  have hcl1 : (hasB n fr && allZero (pageOf pg3 (fr : Int))) = true := by rw [h1, e3, zeros_all]; rfl
  have hz0 : a % 4096 + 8 ≤ zeros4096.length := by rw [zeros4096_length]; have := HA.out.1.1; omega
  have hcl2 : (hasB n ot && allZero (pageOf pg3 (ot : Int))) = decide (v = 0) := by
    rw [h2, e4, allZero_iff, Bool.true_and, HW.out.2.1]
    exact decide_eq_decide.2 (put_zero zeros4096 (a % 4096) v (by simpa using HV.out) zeros_mem hz0)
  have hrd : wordOf pg3 (ot * 4096 + a % 4096) 8 = v := by
    unfold wordOf
    rw [show (ot * 4096 + a % 4096) / 4096 = ot by omega, show (ot * 4096 + a % 4096) % 4096 = a % 4096 by omega, e4, HW.out.2.1]
    have := get_put_part zeros4096 (a % 4096) v 0 8 (by omega) hz0
    rw [Nat.add_zero] at this
    rw [show ((8 : Int).toNat) = 8 from rfl, this]
    simp
    have := HV.out
    omega
  have hpl : placeE n (ot * 4096 + a % 4096) 8 = 0 := by
    have ha8 := HA.out.1.1
    exact place_zero (s := 8) (.inr (.inr (.inr rfl))) (by omega) (by omega) (by omega)
  obtain ⟨B, hB⟩ : ∃ B : Bool, decide (v = 0) = B := ⟨_, rfl⟩
  rw [hB] at hcl2
  have hvB : ((v : Int) == 0) = B := by
    rw [← hB]
    by_cases h : v = 0
    · simp [h]
    · rw [decide_eq_false h, beq_eq_false_iff_ne]; omega
  have hwr : IntKind.u64.wrap (IntKind.u64.wrap ((ot : Int) * 4096) + (a : Int) % 4096) = ((ot * 4096 + a % 4096 : Nat) : Int) := by
    rw [IntWalk.u64_in ((ot : Int) * 4096) (by omega), IntWalk.u64_in _ (by omega)]; omega
  have hwr1 : IntKind.u64.wrap ((ot : Int) * 4096) = (ot : Int) * 4096 := IntWalk.u64_in _ (by omega)
  have hwr2 : IntKind.u64.wrap ((ot : Int) * 4096 + (a : Int) % 4096) = ((ot * 4096 + a % 4096 : Nat) : Int) := by rw [IntWalk.u64_in _ (by omega)]; omega
  have hwo : IntKind.u64.wrap (ot : Int) = (ot : Int) := IntWalk.u64_in _ (by omega)
  have hal : ot * 4096 + a % 4096 < 18446744073709551616 := by omega
  obtain ⟨ad2, had2⟩ : ∃ ad2, ad2 = ot * 4096 + a % 4096 := ⟨_, rfl⟩
  rw [← had2] at hwr hwr2 hrd hpl hal
  have hc := mat_get hM (fr : Int) h1
  rw [hp1] at hc
  have HQ := Lib.hid (And.intro h2 (And.intro h1 (And.intro hsame (And.intro hcl1 (And.intro hcl2 (And.intro hrd (And.intro hpl hal)))))))
  have HP2 := Lib.hid (And.intro hpg2 hpg3)
  have HW2 := Lib.hid HW.out.2.2
  have k1 : (0 : Int) ≤ (fr : Int) + 1 := by omega
  have k2 : (fr : Int) ≤ 1048576 := by omega
  have k3 : (ot : Int) ≤ 1048576 := by omega
  have HOps := Lib.hid (show ops < 4611686018427387904 by omega)
  have HWR := Lib.hid (And.intro hwr (And.intro hwr1 (And.intro hwr2 hwo)))
  have HVB := Lib.hid hvB
  clear hM h1 h2 hp1 hne hpg2 hpg3 e1 e2 e3 e4 hsame hcl1 hcl2 hz0 hrd hpl hB hal had2 hot hotn hwr hwr1 hwr2 hwo hvB hx hfrn hm8 hms hops
  go_wp2_with fail
  (with_reducible refine hc.mono ?_)
  rintro e x3 ⟨g, c, rfl, hrow, hM⟩
  have hB := row_bytes hrow
  have hc := mat_set hM (ot : Int) ⟨g, 0, none⟩ c W HQ.out.1 hB HW2.out
  rw [← HP2.out.1] at hc
  clear hrow hM hB
  go_wp2_with fail
  (with_reducible refine hc.mono ?_)
  rintro e x4 ⟨rfl, hM⟩
  have hc := mat_same hM (fr : Int) (ot : Int) true HQ.out.2.2.1
  clear hM
  go_wp2_with fail
  (with_reducible refine hc.mono ?_)
  rintro e x5 ⟨rfl, hM⟩
  have hc := mat_zero hM (fr : Int) HQ.out.2.1
  rw [← HP2.out.2] at hc
  clear hM
  go_wp2_with fail
  (with_reducible refine hc.mono ?_)
  rintro e x6 ⟨rfl, hM⟩
  have hc := mat_read hM ad2 HQ.out.2.2.2.2.2.2.2 8 HQ.out.2.2.2.2.2.2.1 HOps.out
  rw [HQ.out.2.2.2.2.2.1] at hc
  obtain ⟨hwr, hwr1, hwr2, hwo⟩ := HWR.out
  clear hM
  go_wp2_with fail
  (with_reducible refine hc.mono ?_)
  rintro e x7 ⟨rfl, hM⟩
  have HM7 := Lib.hid hM
  have hvB := HVB.out
  clear hM hc hwr hwr1 hwr2 hwo
  go_wp2_with fail
  (with_reducible refine (HT.out _).mono ?_)
  rintro e x8 ⟨rfl, hO8⟩
  have hM := mat_old HM7.out hO8
  have hc := mat_clear hM (fr : Int) true HQ.out.2.2.2.1
  clear hM hO8 HM7
  go_wp2_with fail
  (with_reducible refine hc.mono ?_)
  rintro e x9 ⟨rfl, hM⟩
  have hc := mat_clear hM (ot : Int) B HQ.out.2.2.2.2.1
  clear hM
  go_wp2_with fail
  (with_reducible refine hc.mono ?_)
  rintro e x10 ⟨rfl, hM⟩
  have HO := Lib.hid hM.2
  clear hM hc
  go_wp2
  go_ret
  exact ⟨rfl, HO.out⟩
end Go.Proofs.Ytfiofjalpaeohaa
