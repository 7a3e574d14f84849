/- Texts on the way to the statement NestedThrough, several in one file: each part says what it is. -/
import Derived.Test.YtlbehhbicmmdoaaKTB
import Derived.Test.YtlbehhbicmmdoaaKTC
import Derived.Test.YtlbehhbicmmdoaaKTD
import Derived.Test.YtlbehhbicmmdoaaKTE
import Derived.Test.YtlbehhbicmmdoaaKTG
namespace Go.Proofs.Ytlbehhbicmmdoaa
set_option linter.unusedVariables false
set_option linter.unusedSimpArgs false
open Go.RowKit
def RetWorld (w : World) (l : List Ed) (e : Ending) (y : World) : Prop :=
  ∃ p mb wd, e = .returned (.tuple #[.pointer (some ⟨p, 0, none⟩), .bool true]) ∧ WorS w mb p (fun _ => False) wd 100 y ∧ (l = [] → wd = wdC 16)
theorem okM40 {a : Nat} (h1 : a % 8 = 0) (h2 : a / 4096 < 40) : okM 40 a = true := decide_eq_true ⟨h1, h2⟩
theorem nearA_lt {st lv k : Int} {a : Nat} (h : a < 18446744073709551616) : nearA st lv k a < 18446744073709551616 := by
  unfold nearA
  have h1 := Nat.mod_le a (topN st)
  repeat' split
  all_goals omega
set_option maxHeartbeats 16000000 in
set_option maxRecDepth 100000 in
theorem world14_calls (w : World) (ad : Option Addr) (l : List Ed) (cap : Nat) (hN : l.length ≤ maxLen) (hE : Edits w ad l) :
    Calls Try.prog 29 #[.slice ad l.length cap] w (RetWorld w l) := by
  obtain ⟨ln, hln⟩ : ∃ ln, l.length = ln := ⟨_, rfl⟩
  rw [hln]
  have hnew : Calls Try.prog 54 #[.int .i64 40] w _ := memW_new 40 w (by decide) (by decide)
  have HE := Lib.hid (And.intro hN (And.intro hE hln))
  clear hN hE hln
  go_enter Try.func29, Try.ntmps29
  go_wp2_with fail
  (with_reducible refine hnew.mono ?_)
  rintro e x1 ⟨rfl, hO1, hsz1, hm1⟩
  have hm := hm1 (fun b => b < w.heap.size) (fun b hb => hb)
  have HSZ1 := Lib.hid hsz1
  clear hnew hm1 hsz1
  go_upto_region 2 with (fail)
  have hO2 := old_alloc (old_refl x1) (.cells #[.pointer (some ⟨w.heap.size + 1, 0, none⟩)] 61)
  have hmb := new_block x1 (.cells #[.pointer (some ⟨w.heap.size + 1, 0, none⟩)] 61)
  have hsz2 : (x1.alloc (.cells #[.pointer (some ⟨w.heap.size + 1, 0, none⟩)] 61)).heap.size = x1.heap.size + 1 := World.size_alloc _ _
  generalize x1.alloc (.cells #[.pointer (some ⟨w.heap.size + 1, 0, none⟩)] 61) = X2 at *
  have hsz1 := HSZ1.out
  obtain ⟨mb, hmbe⟩ : ∃ mb, mb = x1.heap.size := ⟨_, rfl⟩
  obtain ⟨p, hp⟩ : ∃ p, p = w.heap.size + 1 := ⟨_, rfl⟩
  rw [← hmbe] at hmb ⊢
  rw [← hp] at hmb hm ⊢
  have hS0 : WorS w mb p (fun _ => False) (wdA 0) 0 X2 :=
    ⟨fun b => b < w.heap.size ∨ b = mb, fun b hb => by rcases hb with h | h <;> omega, fun b hb => .inl hb, .inr rfl, fun b f => f.elim, memW_old (memW_more hm (fun b hb => hb.imp id (fun e => by omega))) hO2, hmb, old_then hO1 hO2⟩
  obtain ⟨km, qm, zm⟩ := of_block hmb
  have HS0 := Lib.hid hS0
  have HP := Lib.hid (show w.heap.size < mb by omega)
  clear hO1 hsz1 hm hO2 hmb hsz2 hmbe hp hS0
  go_wp2
  refine wp_loopF [false, false, false, false, false, false, false, true, true, false, false, false, false, false, false, false, false, false, false, false, false, false, false, false, false, false, false, false, false, false, false, true, true, true, true, true, true, true, true, true, true, true, true, true, true, true, true, true, true, true, true, true, true, true, true, true, true, true, true, true, true, true, true, true, true, true, true] (fun f x => ∃ i : Nat, i ≤ 3 ∧ f 8 = .int .i64 (i : Nat) ∧ f 7 = .bool true ∧ WorS w mb p (fun _ => False) (wdA i) (2 * i) x) (fun f => 3 - (intOf (f 8)).toNat) ?start1 ?round1
  case start1 => exact ⟨0, by omega, rfl, rfl, by first | exact HS0.out | exact worS_old HS0.out (old_drew (old_refl _))⟩
  case round1 =>
    intro f1 wr hrel J1 K1 hJ1 hM1
    dsimp only [mergeA, mergeL, Nat.reduceAdd]
    obtain ⟨i, hi, h8, h7, hS⟩ := hrel
    rw [h8, h7]
    have H8 := Lib.hid h8
    have HS := Lib.hid hS
    clear h8 h7 hS km qm zm
    by_cases hi3 : i = 3
    · subst hi3
      clear hi H8
      have hall := fun y => all14_calls y
      go_wp2_with fail
      (with_reducible refine (hall _).mono ?_)
      rintro e x3 ⟨rfl, hO3⟩
      have HS3 := Lib.hid (worS_old HS.out hO3)
      clear hall hO3
      go_upto_region 12 with (fail)
      have hO4 := old_alloc (old_refl x3) (.cells #[.bool true, .bool true, .bool true] 46)
      have hab := new_block x3 (.cells #[.bool true, .bool true, .bool true] 46)
      have hsz : (x3.alloc (.cells #[.bool true, .bool true, .bool true] 46)).heap.size = x3.heap.size + 1 := World.size_alloc _ _
      generalize x3.alloc (.cells #[.bool true, .bool true, .bool true] 46) = X4 at *
      obtain ⟨ab, habe⟩ : ∃ ab, ab = x3.heap.size := ⟨_, rfl⟩
      rw [← habe] at hab ⊢
      have HS1 : Hid (WorS w mb p (fun b => b = ab) (wdB 0) (6 + 0) X4 ∧ X4.heap[ab]? = some (.cells #[.bool true, .bool true, .bool true] 46)) := Lib.hid ⟨worS_new HS3.out hO4 (fun b hb => .inr (by omega)), hab⟩
      clear hO4 hab hsz habe HS HS3
      go_wp2
      refine wp_loopF [false, false, false, false, false, false, false, true, false, false, true, true, false, false, false, false, false, false, false, false, false, false, false, false, false, false, false, false, false, false, false, false, false, false, false, false, false, false, false, false, false, false, false, false, false, false, false, false, false, false, false, false, false, false, false, false, false, false, false, false, false, false, false, false, false, false, false, false, true, true, true, true, true, true, true, true, true, true, true, true, true, true, true, true, true, true, true, true, true, true, true, true, true, true, true, true, true] (fun f x => ∃ i : Nat, i ≤ 24 ∧ f 10 = .int .i64 (i : Nat) ∧ f 7 = .bool true ∧ WorS w mb p (fun b => b = ab) (wdB i) (6 + i) x ∧ x.heap[ab]? = some (.cells #[.bool true, .bool true, .bool true] 46)) (fun f => 24 - (intOf (f 10)).toNat) ?start2 ?round2
      case start2 => exact ⟨0, by omega, rfl, rfl, HS1.out.1, HS1.out.2⟩
      case round2 =>
        intro f2 wr hrel J2 K2 hJ2 hM2
        dsimp only [mergeA, mergeL, Nat.reduceAdd]
        obtain ⟨i, hi, h8, h7, hS, hab⟩ := hrel
        rw [h8, h7]
        have H8 := Lib.hid h8
        have HS := Lib.hid hS
        have HA := Lib.hid hab
        clear h8 h7 hS hab
        by_cases hi3 : i = 24
        · subst hi3
          clear hi H8
          have HS2 : Hid (WorS w mb p (fun b => b = ab) (wdC 0) (30 + 0) wr ∧ wr.heap[ab]? = some (.cells #[.bool true, .bool true, .bool true] 46)) := Lib.hid ⟨HS.out, HA.out⟩
          clear HS HA
          go_wp2
          refine wp_loopF [false, false, false, false, false, false, false, true, false, false, false, false, true, true, false, false, false, false, false, false, false, false, false, false, false, false, false, false, false, false, false, false, false, false, false, false, false, false, false, false, false, false, false, false, false, false, false, false, false, false, false, false, false, false, false, false, false, false, false, false, false, false, false, false, false, false, false, false, false, false, false, false, false, false, false, false, false, false, false, false, false, false, false, false, false, false, false, false, false, false, false, false, false, false, false, false, false, true, true, true, true, true, true, true, true, true, true, true, true, true, true, true, true, true, true, true, true, true, true, true, true, true, true, true, true, true, true, true, true] (fun f x => ∃ i : Nat, i ≤ 16 ∧ f 12 = .int .i64 (i : Nat) ∧ f 7 = .bool true ∧ WorS w mb p (fun b => b = ab) (wdC i) (30 + i) x ∧ x.heap[ab]? = some (.cells #[.bool true, .bool true, .bool true] 46)) (fun f => 16 - (intOf (f 12)).toNat) ?start3 ?round3
          case start3 => exact ⟨0, by omega, rfl, rfl, HS2.out.1, HS2.out.2⟩
          case round3 =>
            intro f3 wr hrel J3 K3 hJ3 hM3
            dsimp only [mergeA, mergeL, Nat.reduceAdd]
            obtain ⟨i, hi, h8, h7, hS, hab⟩ := hrel
            rw [h8, h7]
            have H8 := Lib.hid h8
            have HS := Lib.hid hS
            have HA := Lib.hid hab
            clear h8 h7 hS hab
            by_cases hi3 : i = 16
            · subst hi3
              clear hi H8
              have HW0 := Lib.hid (worS_less (B' := fun _ => False) HS.out (fun b f => f.elim))
              clear HS HA
              go_wp2
              refine wp_loopF [false, false, false, false, false, false, false, true, false, false, false, false, false, false, true, true, true, true, true, true, false, false, false, false, false, false, false, false, false, false, false, false, false, false, false, false, false, false, false, false, false, false, false, false, false, false, false, false, false, false, false, false, false, false, false, false, false, false, false, false, false, false, false, false, false, false, false, false, false, false, false, false, false, false, false, false, false, false, false, false, false, false, false, false, false, false, false, false, false, false, false, false, false, false, false, false, false, false, false, false, false, false, false, false, false, false, false, false, false, false, false, false, false, false, false, false, false, false, false, false, false, false, false, false, false, false, false, false, false, true, true, true, true, true, true, true, true, true, true, true, true, true, true, true, true, true, true, true, true, true, true, true, true, true, true, true, true, true, true, true, true, true, true, true, true, true, true, true, true, true, true, true, true, true, true, true, true, true, true, true, true, true, true, true, true, true, true, true, true, true, true, true, true, true, true, true, true, true, true, true, true, true, true, true, true, true, true, true, true, true, true, true, true, true, true, true] (fun f x => ∃ i : Nat, i ≤ 12 ∧ i ≤ ln ∧ f 14 = .int .i64 (i : Nat) ∧ f 7 = .bool true ∧ ∃ wd, WorS w mb p (fun _ => False) wd (46 + i) x ∧ (i = 0 → wd = wdC 16)) (fun f => 12 - (intOf (f 14)).toNat) ?start4 ?round4
              case start4 => exact ⟨0, by omega, by omega, rfl, rfl, wdC 16, by first | exact HW0.out | exact worS_old HW0.out (old_drew (old_refl _)), fun _ => rfl⟩
              case round4 =>
                intro f4 wr hrel J4 K4 hJ4 hM4
                dsimp only [mergeA, mergeL, Nat.reduceAdd]
                obtain ⟨i, hi, hil, h8, h7, wd, hS, hwd⟩ := hrel
                rw [h8, h7]
                have H8 := Lib.hid h8
                have HS := Lib.hid hS
                have HWD := Lib.hid hwd
                have HIL := Lib.hid (And.intro hi hil)
                clear h8 h7 hS hwd HW0
                by_cases hin : i < ln ∧ i < 12
                · obtain ⟨hlt, h12⟩ := hin
                  have e1 : (i : Int) < ln := by omega
                  have e2 : (i : Int) < 12 := by omega
                  have e3 : (ln : Int) ≤ 9223372036854775807 := by have h := HE.out.1; have h' := HE.out.2.2; unfold maxLen at h; omega
                  obtain ⟨ed, hed⟩ : ∃ ed, l[i]? = some ed := ⟨_, List.getElem?_eq_getElem (by rw [HE.out.2.2]; exact hlt)⟩
                  have hO : Old w wr := by obtain ⟨_, _, _, _, _, _, _, h⟩ := HS.out; exact h
                  obtain ⟨ha64, hw64, eb, eo, rfl, hebl, hcc⟩ := edits_old HE.out.2.1 hO i ed hed
                  obtain ⟨ewh, eix, ⟨dk, da, dr, dw, dx, dS⟩, eraw, ew⟩ := ed
                  replace ha64 : da < 18446744073709551616 := ha64
                  replace hw64 : ew < 18446744073709551616 := hw64
                  have hcc2 : ∀ y, Old wr y → ∀ (c : Nat) (v : Value), [Value.int .i64 ewh, .int .i64 eix, .int .i64 dk, .int .u64 (da : Nat), .bool dr, .bool dw, .bool dx, .int .i64 dS, .bool eraw, .int .u64 (ew : Nat)][c]? = some v → y.cell? ⟨eb, eo + i * 10 + c, none⟩ = some v := fun y hy c v hv => by
                    rw [hy.cell hebl]; exact hcc c v hv
                  have HCC := Lib.hid hcc2
                  have HLT := Lib.hid (And.intro hlt (And.intro h12 (And.intro ha64 hw64)))
                  obtain ⟨W, hW, hWl⟩ : ∃ W : Nat, bits .and .i64 ewh 7 = (W : Int) ∧ W ≤ 7 := ⟨(ewh % 8).toNat, by rw [i64_mask7]; omega, by omega⟩
                  obtain ⟨L, hL, hLl⟩ : ∃ L : Nat, bits .and .i64 (W : Int) 3 = (L : Int) ∧ (L ≤ 3 ∧ (W ≤ 3 → L = W)) := ⟨((W : Int) % 4).toNat, by rw [i64_mask3]; omega, by omega⟩
                  obtain ⟨A1, hA1⟩ : ∃ A1, (W + 1) * 4096 = A1 := ⟨_, rfl⟩
                  obtain ⟨W1, hW1⟩ : ∃ W1, W + 1 = W1 := ⟨_, rfl⟩
                  have c1 : IntKind.u64.wrap ((W : Int) + 1) = (W1 : Int) := by rw [IntWalk.u64_in _ (by omega)]; omega
                  have c2 : IntKind.u64.wrap ((W1 : Int) * 4096) = (A1 : Int) := by rw [IntWalk.u64_in _ (by omega)]; omega
                  have w7 : (W : Int) ≤ 7 := by omega
                  have HWL := Lib.hid (And.intro hWl (And.intro hLl (And.intro hA1 hW1)))
                  have q0 : wr.cell? ⟨eb, eo + i * 10, none⟩ = some (.int .i64 ewh) := HCC.out wr (old_refl _) 0 _ rfl
                  clear hed hO hebl hcc hcc2 hlt h12 ha64 hw64 hi hil hWl hLl hA1 hW1
                  go_upto_if 152 with (fail)
                  clear q0 c1 c2
                  refine wp_cutF [false, false, false, false, false, false, false, false, false, false, false, false, false, false, false, false, true, false, true, false, false, false, false, false, false, false, false, false, false, false, false, false, false, false, false, false, false, false, false, false, false, false, false, false, false, false, false, false, false, false, false, false, false, false, false, false, false, false, false, false, false, false, false, false, false, false, false, false, false, false, false, false, false, false, false, false, false, false, false, false, false, false, false, false, false, false, false, false, false, false, false, false, false, false, false, false, false, false, false, false, false, false, false, false, false, false, false, false, false, false, false, false, false, false, false, false, false, false, false, false, false, false, false, false, false, false, false, false, false, false, false, false, false, false, false, false, false, false, false, false, false, false, false, false, false, false, false, false, false, false, false, false, true, true, true, true, true] (fun f x => ∃ (st : Int) (A T : Nat), f 16 = .int .i64 st ∧ f 18 = .int .u64 (A : Nat) ∧ A = T * 4096 ∧ (st = 1 ∨ st = 2) ∧ T < 40 ∧ Old wr x) ?restC ?firstC
                  case firstC =>
                    intro J5 K5 hJ5 hM5
                    by_cases h3 : 3 < W
                    · have d1 : decide ((3 : Int) < (W : Int)) = true := decide_eq_true (by omega)
                      have hfc := fun y => frame14_calls L (by have := HWL.out.2.1.1; omega) y
                      obtain ⟨fr, hfr⟩ : ∃ fr, frN L = fr := ⟨_, rfl⟩
                      have hfl := frN_lt L
                      rw [hfr] at hfc hfl
                      obtain ⟨fa, hfa⟩ : ∃ fa, fr * 4096 = fa := ⟨_, rfl⟩
                      have c5 : IntKind.u64.wrap (fr : Int) = (fr : Int) := IntWalk.u64_in _ (by omega)
                      have c6 : IntKind.u64.wrap ((fr : Int) * 4096) = (fa : Int) := by rw [IntWalk.u64_in _ (by omega)]; omega
                      have HF := Lib.hid (And.intro hfc (And.intro hfl hfa))
                      rw [d1]
                      clear h3 hfc hfr hfl hfa
                      go_wp2_with fail
                      (with_reducible refine (HF.out.1 _).mono ?_)
                      rintro e y1 ⟨rfl, hO1⟩
                      have HO1 := Lib.hid hO1
                      clear hO1
                      go_wp2
                      exact Met.intro (hJ5 _ _ (by kernel_rfl) ⟨1, fa, fr, rfl, rfl, HF.out.2.2.symm, .inl rfl, by have := HF.out.2.1; omega, HO1.out⟩)
                    · have d1 : decide ((3 : Int) < (W : Int)) = false := decide_eq_false (by omega)
                      have H3 := Lib.hid h3
                      rw [d1]
                      clear h3
                      go_wp2
                      exact Met.intro (hJ5 _ _ (by kernel_rfl) ⟨2, A1, W + 1, rfl, rfl, HWL.out.2.2.1.symm, .inr rfl, by have := HWL.out.1; omega, by first | exact old_refl _ | exact old_drew (old_refl _)⟩)
                  case restC =>
                    intro f5 x5 hcut
                    dsimp only [mergeA, mergeL, Nat.reduceAdd]
                    obtain ⟨st, A, T, h16, h18, hAT, hst, hT, hO5⟩ := hcut
                    rw [h16, h18]
                    have HS5 := Lib.hid (worS_old HS.out hO5)
                    obtain ⟨J, hJ, hJl⟩ : ∃ J : Nat, bits .and .i64 eix 511 = (J : Int) ∧ J ≤ 511 := ⟨(eix % 512).toNat, by rw [i64_mask511]; omega, by omega⟩
                    obtain ⟨J8, hJ8⟩ : ∃ J8, 8 * J = J8 := ⟨_, rfl⟩
                    obtain ⟨AT, hA⟩ : ∃ AT, A + J8 = AT := ⟨_, rfl⟩
                    have c1 : IntKind.u64.wrap (J : Int) = (J : Int) := IntWalk.u64_in _ (by omega)
                    have c2 : IntKind.u64.wrap (8 * (J : Int)) = (J8 : Int) := by rw [IntWalk.u64_in _ (by omega)]; omega
                    have c3 : IntKind.u64.wrap ((A : Int) + (J8 : Int)) = (AT : Int) := by rw [IntWalk.u64_in _ (by omega)]; omega
                    have q1 : x5.cell? ⟨eb, eo + i * 10 + 1, none⟩ = some (.int .i64 eix) := HCC.out x5 hO5 1 _ rfl
                    have q8 : x5.cell? ⟨eb, eo + i * 10 + 8, none⟩ = some (.bool eraw) := HCC.out x5 hO5 8 _ rfl
                    have hok : okM 40 AT = true := okM40 (by omega) (by omega)
                    have hA64 : AT < 18446744073709551616 := by omega
                    have HPL : Hid (Place st (L : Nat)) := Lib.hid ⟨hst, by omega, by have := HWL.out.2.1.1; omega⟩
                    have HO5 := Lib.hid hO5
                    have HPC : Hid (∀ v y, v < 18446744073709551616 → WorS w mb p (fun _ => False) wd (46 + i) y → Calls Try.prog 55 #[.int .u64 (AT : Nat), .int .u64 (v : Nat), .pointer (some ⟨mb, 0, none⟩)] y (RetPut w mb p (fun _ => False) (updW wd AT v) (46 + i + 1) y)) := Lib.hid (fun v y hv h => put14_calls h (by have := HLT.out.2.1; omega) AT v hok hA64 hv)
                    clear h16 h18 hAT hst hT hO5 hJl hJ8 hA hok hA64 w7 hW hL
                    go_upto_if 171 with (fail)
                    clear q1 q8 c1 c2 c3 hJ
                    cases eraw with
                    | true =>
                      have q9 : x5.cell? ⟨eb, eo + i * 10 + 9, none⟩ = some (.int .u64 (ew : Nat)) := HCC.out x5 HO5.out 9 _ rfl
                      have hp := HPC.out ew x5 HLT.out.2.2.2 HS5.out
                      go_wp2_with fail
                      (with_reducible refine hp.mono ?_)
                      rintro e y6 ⟨rfl, hS6, -⟩
                      have HS6 := Lib.hid hS6
                      clear hp hS6 q9
                      go_wp2
                      refine Met.intro (hJ4 _ _ (by kernel_rfl) ?_ ?_)
                      · exact ⟨i + 1, by have := HLT.out.2.1; omega, HLT.out.1, by show Value.int .i64 ((i : Int) + 1) = _; simp, rfl, _, by first | exact HS6.out | exact worS_old HS6.out (old_drew (old_refl _)), fun h => by omega⟩
                      · rw [H8.out]
                        show 12 - (intOf (Value.int .i64 ((i : Int) + 1))).toNat < 12 - (intOf (Value.int .i64 (i : Int))).toNat
                        have := HLT.out.2.1
                        simp [intOf]
                        omega
                    | false =>
                      have hc6 : ∀ (c : Nat) (v : Value), [Value.int .i64 dk, .int .u64 (da : Nat), .bool dr, .bool dw, .bool dx, .int .i64 dS][c]? = some v → x5.cell? ⟨eb, eo + i * 10 + 2 + c, none⟩ = some v := fun c v hv => by
                        have h : [Value.int .i64 ewh, .int .i64 eix, .int .i64 dk, .int .u64 (da : Nat), .bool dr, .bool dw, .bool dx, .int .i64 dS, .bool false, .int .u64 (ew : Nat)][2 + c]? = some v := by
                          match c, hv with
                          | 0, h => exact h
                          | 1, h => exact h
                          | 2, h => exact h
                          | 3, h => exact h
                          | 4, h => exact h
                          | 5, h => exact h
                          | c + 6, h => simp at h
                        have := HCC.out x5 HO5.out (2 + c) v h
                        rw [← Nat.add_assoc] at this
                        exact this
                      have hn := fun y => near_calls st (L : Nat) dk da dr dw dx dS y HPL.out
                      have hna : nearA st (L : Nat) dk da < 18446744073709551616 := nearA_lt HLT.out.2.2.1
                      unfold nearV at hn
                      generalize nearK (L : Nat) dk = nk at *
                      generalize nearA st (L : Nat) dk da = na at *
                      generalize nearR (L : Nat) dk dr = nr at *
                      generalize nearW (L : Nat) dk dr dw = nw at *
                      generalize nearR (L : Nat) dk dx = nx at *
                      generalize nearS (L : Nat) dk dS = ns at *
                      have HC6 := Lib.hid hc6
                      have HN := Lib.hid hn
                      have HNA := Lib.hid hna
                      clear hc6 hn hna
                      go_wp2_with (refine wpList_load_at rfl 48 _ rfl eb (eo + i * 10 + 2) rfl [Value.int .i64 dk, .int .u64 (da : Nat), .bool dr, .bool dw, .bool dx, .int .i64 dS] _ HC6.out Try.underlying48 rfl (by kernel_rfl) ?_)
                      (with_reducible refine (HN.out _).mono ?_)
                      rintro e x6 ⟨rfl, hO6⟩
                      have HS6 := Lib.hid (worS_old HS5.out hO6)
                      clear hO6 HC6 HN
                      go_upto_region 37 with (fail)
                      have HO7 := Lib.hid (old_alloc (old_refl x6) (.cells #[.int .i64 nk, .int .u64 (na : Nat), .bool nr, .bool nw, .bool nx, .int .i64 (ns : Nat)] 48))
                      have hO7 := old_alloc (old_refl x6) (.cells #[.int .i64 nk, .int .u64 (na : Nat), .bool nr, .bool nw, .bool nx, .int .i64 (ns : Nat)] 48)
                      have hdb := new_block x6 (.cells #[.int .i64 nk, .int .u64 (na : Nat), .bool nr, .bool nw, .bool nx, .int .i64 (ns : Nat)] 48)
                      generalize x6.alloc (.cells #[.int .i64 nk, .int .u64 (na : Nat), .bool nr, .bool nw, .bool nx, .int .i64 (ns : Nat)] 48) = X7 at *
                      obtain ⟨k7, q7, z7⟩ := of_block hdb
                      have HS7 := Lib.hid (worS_old HS6.out hO7)
                      obtain ⟨db, hdbe⟩ : ∃ db, db = x6.heap.size := ⟨_, rfl⟩
                      rw [← hdbe] at hdb ⊢
                      have HDB := Lib.hid (And.intro hdbe (And.intro hdb (show w.heap.size ≤ x6.heap.size by obtain ⟨_, _, _, _, _, _, _, h⟩ := HS6.out; exact h.size)))
                      have HMB := Lib.hid (lt_of_block (worS_mb HS6.out))
                      clear hO7 hdbe hdb k7 q7 z7
                      obtain ⟨k7, q7, z7⟩ := of_block HDB.out.2.1
                      obtain ⟨n12, hn12⟩ : ∃ n12, na / 4096 = n12 := ⟨_, rfl⟩
                      have c1 : (na : Int) / 4096 = (n12 : Int) := by omega
                      by_cases h50 : 50 < n12
                      · have d1 : decide ((50 : Int) < (n12 : Int)) = true := decide_eq_true (by omega)
                        clear h50 hn12
                        by_cases hk2 : nk = 2
                        · have d2 : (nk != 2) = false := by simp [hk2]
                          clear hk2
                          go_wp2_with fail
                          (with_reducible refine (word14_calls st (L : Nat) nk na nr nw nx (ns : Nat) _).mono ?_)
                          rintro e y8 ⟨rfl, hO8⟩
                          have hp := HPC.out (encW st (L : Nat) nk na nr nw nx (ns : Nat)) y8 (enc_lt64 _ _ _ _ _ _ _ _) (worS_old HS7.out hO8)
                          generalize encW st (L : Nat) nk na nr nw nx (ns : Nat) = E at *
                          clear hO8
                          go_wp2_with fail
                          (with_reducible refine hp.mono ?_)
                          rintro e y9 ⟨rfl, hS6, -⟩
                          have HS6 := Lib.hid hS6
                          clear hp hS6
                          go_wp2
                          refine Met.intro (hJ4 _ _ (by kernel_rfl) ?_ ?_)
                          · exact ⟨i + 1, by have := HLT.out.2.1; omega, HLT.out.1, by show Value.int .i64 ((i : Int) + 1) = _; simp, rfl, _, by first | exact HS6.out | exact worS_old HS6.out (old_drew (old_refl _)), fun h => by omega⟩
                          · rw [H8.out]
                            show 12 - (intOf (Value.int .i64 ((i : Int) + 1))).toNat < 12 - (intOf (Value.int .i64 (i : Int))).toNat
                            have := HLT.out.2.1
                            simp [intOf]
                            omega
                        · have d2 : (nk != 2) = true := by simp [hk2]
                          obtain ⟨m45, hm⟩ : ∃ m45, n12 % 45 = m45 := ⟨_, rfl⟩
                          obtain ⟨na2, hn2⟩ : ∃ na2, m45 * 4096 = na2 := ⟨_, rfl⟩
                          have c2 : (n12 : Int) % 45 = (m45 : Int) := by omega
                          have c3 : IntKind.u64.wrap ((m45 : Int) * 4096) = (na2 : Int) := by rw [IntWalk.u64_in _ (by omega)]; omega
                          have hset : X7.setCell ⟨db, 1, none⟩ (.int .u64 (na2 : Nat)) = putB X7 db (.cells #[.int .i64 nk, .int .u64 (na2 : Nat), .bool nr, .bool nw, .bool nx, .int .i64 (ns : Nat)] 48) := by rw [set_of HDB.out.2.1]; rfl
                          have hd2 := putB_same (.cells #[.int .i64 nk, .int .u64 (na2 : Nat), .bool nr, .bool nw, .bool nx, .int .i64 (ns : Nat)] 48) (lt_of_block HDB.out.2.1)
                          have hS8 := worS_less (worS_putB (worS_new (B' := fun b => b = db) HS6.out (y := X7) HO7.out (fun b e => .inr ⟨by rw [e, HDB.out.1]; exact Nat.le_refl _, by rw [e]; exact lt_of_block HDB.out.2.1⟩)) rfl (by have := HMB.out; have := HDB.out.1; omega) (by have := HDB.out.2.2; have := HDB.out.1; omega) (.cells #[.int .i64 nk, .int .u64 (na2 : Nat), .bool nr, .bool nw, .bool nx, .int .i64 (ns : Nat)] 48)) (B' := fun _ => False) (fun b f => f.elim)
                          obtain ⟨k8, q8, z8⟩ := of_block hd2
                          generalize putB X7 db (.cells #[.int .i64 nk, .int .u64 (na2 : Nat), .bool nr, .bool nw, .bool nx, .int .i64 (ns : Nat)] 48) = X8 at *
                          have HS8 := Lib.hid hS8
                          clear hk2 hm hn2 hd2 hS8
                          go_wp2_with fail
                          (with_reducible refine (word14_calls st (L : Nat) nk na2 nr nw nx (ns : Nat) _).mono ?_)
                          rintro e y8 ⟨rfl, hO8⟩
                          have hp := HPC.out (encW st (L : Nat) nk na2 nr nw nx (ns : Nat)) y8 (enc_lt64 _ _ _ _ _ _ _ _) (worS_old HS8.out hO8)
                          generalize encW st (L : Nat) nk na2 nr nw nx (ns : Nat) = E at *
                          clear hO8
                          go_wp2_with fail
                          (with_reducible refine hp.mono ?_)
                          rintro e y9 ⟨rfl, hS6, -⟩
                          have HS6 := Lib.hid hS6
                          clear hp hS6
                          go_wp2
                          refine Met.intro (hJ4 _ _ (by kernel_rfl) ?_ ?_)
                          · exact ⟨i + 1, by have := HLT.out.2.1; omega, HLT.out.1, by show Value.int .i64 ((i : Int) + 1) = _; simp, rfl, _, by first | exact HS6.out | exact worS_old HS6.out (old_drew (old_refl _)), fun h => by omega⟩
                          · rw [H8.out]
                            show 12 - (intOf (Value.int .i64 ((i : Int) + 1))).toNat < 12 - (intOf (Value.int .i64 (i : Int))).toNat
                            have := HLT.out.2.1
                            simp [intOf]
                            omega
                      · have d1 : decide ((50 : Int) < (n12 : Int)) = false := decide_eq_false (by omega)
                        clear h50 hn12
                        go_wp2_with fail
                        (with_reducible refine (word14_calls st (L : Nat) nk na nr nw nx (ns : Nat) _).mono ?_)
                        rintro e y8 ⟨rfl, hO8⟩
                        have hp := HPC.out (encW st (L : Nat) nk na nr nw nx (ns : Nat)) y8 (enc_lt64 _ _ _ _ _ _ _ _) (worS_old HS7.out hO8)
                        generalize encW st (L : Nat) nk na nr nw nx (ns : Nat) = E at *
                        clear hO8
                        go_wp2_with fail
                        (with_reducible refine hp.mono ?_)
                        rintro e y9 ⟨rfl, hS6, -⟩
                        have HS6 := Lib.hid hS6
                        clear hp hS6
                        go_wp2
                        refine Met.intro (hJ4 _ _ (by kernel_rfl) ?_ ?_)
                        · exact ⟨i + 1, by have := HLT.out.2.1; omega, HLT.out.1, by show Value.int .i64 ((i : Int) + 1) = _; simp, rfl, _, by first | exact HS6.out | exact worS_old HS6.out (old_drew (old_refl _)), fun h => by omega⟩
                        · rw [H8.out]
                          show 12 - (intOf (Value.int .i64 ((i : Int) + 1))).toNat < 12 - (intOf (Value.int .i64 (i : Int))).toNat
                          have := HLT.out.2.1
                          simp [intOf]
                          omega
                · have hmb := worS_mb HS.out
                  obtain ⟨km, qm, zm⟩ := of_block hmb
                  have HND : Hid (l = [] → wd = wdC 16) := Lib.hid (fun hl => HWD.out (by have h1 := HE.out.2.2; have h2 := HIL.out.2; rw [hl] at h1; simp at h1; omega))
                  have hil := HIL.out
                  by_cases hx : i < ln
                  · have d1 : (i : Int) < (ln : Int) := by omega
                    have d2 : (12 : Int) ≤ (i : Int) := by omega
                    clear hin hx hil hmb
                    go_wp2
                    go_ret2
                    exact ⟨p, mb, wd, rfl, worS_le HS.out (by have := HIL.out; omega), HND.out⟩
                  · have d1 : (ln : Int) ≤ (i : Int) := by omega
                    clear hin hx hil hmb
                    go_wp2
                    go_ret2
                    exact ⟨p, mb, wd, rfl, worS_le HS.out (by have := HIL.out; omega), HND.out⟩
            · skip
              have hlt : i < 16 := by omega
              have e1 : (i : Int) < 16 := by omega
              obtain ⟨i8, hi8⟩ : ∃ i8, i * 8 = i8 := ⟨_, rfl⟩
              obtain ⟨fr, hfr⟩ : ∃ fr, frN 3 = fr := ⟨_, rfl⟩
              obtain ⟨F4, hF4⟩ : ∃ F4, fr * 4096 = F4 := ⟨_, rfl⟩
              obtain ⟨ia, hia⟩ : ∃ ia, F4 + i8 = ia := ⟨_, rfl⟩
              obtain ⟨i4, hi4⟩ : ∃ i4, i + 4 = i4 := ⟨_, rfl⟩
              obtain ⟨I4, hI4⟩ : ∃ I4, i4 * 4096 = I4 := ⟨_, rfl⟩
              have hfl := frN_lt 3
              have c1 : IntKind.u64.wrap (i : Int) = (i : Int) := IntWalk.u64_in _ (by omega)
              have c2 : IntKind.u64.wrap ((i : Int) * 8) = (i8 : Int) := by rw [IntWalk.u64_in _ (by omega)]; omega
              have c4 : IntKind.u64.wrap (fr : Int) = (fr : Int) := IntWalk.u64_in _ (by omega)
              have c5 : IntKind.u64.wrap ((fr : Int) * 4096) = (F4 : Int) := by rw [IntWalk.u64_in _ (by omega)]; omega
              have c3 : IntKind.u64.wrap ((F4 : Int) + (i8 : Int)) = (ia : Int) := by rw [IntWalk.u64_in _ (by omega)]; omega
              have c6 : IntKind.u64.wrap ((i : Int) + 4) = (i4 : Int) := by rw [IntWalk.u64_in _ (by omega)]; omega
              have c7 : IntKind.u64.wrap ((i4 : Int) * 4096) = (I4 : Int) := by rw [IntWalk.u64_in _ (by omega)]; omega
              obtain ⟨bw, hbw⟩ : ∃ bw, decide (i % 4 ≠ 3) = bw := ⟨_, rfl⟩
              obtain ⟨bx, hbx⟩ : ∃ bx, decide (i % 7 ≠ 1) = bx := ⟨_, rfl⟩
              have g1 : ((i : Int).tmod 4 != 3) = bw := by
                rw [Int.tmod_eq_emod_of_nonneg (by omega), ← hbw]
                by_cases h : i % 4 = 3
                · rw [decide_eq_false (by simp [h])]; simp; omega
                · rw [decide_eq_true h]; simp; omega
              have g2 : ((i : Int).tmod 7 != 1) = bx := by
                rw [Int.tmod_eq_emod_of_nonneg (by omega), ← hbx]
                by_cases h : i % 7 = 1
                · rw [decide_eq_false (by simp [h])]; simp; omega
                · rw [decide_eq_true h]; simp; omega
              have g3 : ((i : Int) % 4 != 3) = bw := by rw [← g1, Int.tmod_eq_emod_of_nonneg (by omega)]
              have g4 : ((i : Int) % 7 != 1) = bx := by rw [← g2, Int.tmod_eq_emod_of_nonneg (by omega)]
              obtain ⟨E, hE⟩ : ∃ E, encW 1 3 3 I4 true bw bx 0 = E := ⟨_, rfl⟩
              have hEl : E < 18446744073709551616 := by rw [← hE]; exact enc_lt64 _ _ _ _ _ _ _ _
              have hwd : updW (wdC i) ia E = wdC (i + 1) := by
                subst hE hbw hbx hia hi8 hF4 hfr hI4 hi4; rfl
              have hpc := fun B y (h : WorS w mb p B (wdC i) (30 + i) y) => put14_calls h (by omega) ia E (okM40 (by omega) (by omega)) (by omega) hEl
              have hfc : ∀ y, Calls Try.prog 40 #[.int .i64 3] y (RetB y (.int .i64 (frN 3 : Nat))) := fun y => frame14_calls 3 (by decide) y
              have hwc := fun y => word14_calls 1 3 3 I4 true bw bx 0 y
              rw [hfr] at hfc
              rw [hE] at hwc
              rw [hwd] at hpc
              have HPC := Lib.hid hpc
              have HFC := Lib.hid hfc
              have HWC := Lib.hid hwc
              have HLT := Lib.hid hlt
              clear hE hEl hwd hbw hbx hpc hfc hwc hlt hi hi3 hi8 hia hfr hF4 hfl hi4 hI4
              obtain ⟨ka, qa, za⟩ := of_block HA.out
              go_upto_region 23 with (fail)
              have hO := old_alloc (old_refl wr) (.cells #[.bool true, .bool true, .bool true] 46)
              have hqb := new_block wr (.cells #[.bool true, .bool true, .bool true] 46)
              have hsz : (wr.alloc (.cells #[.bool true, .bool true, .bool true] 46)).heap.size = wr.heap.size + 1 := World.size_alloc _ _
              generalize wr.alloc (.cells #[.bool true, .bool true, .bool true] 46) = X5 at *
              obtain ⟨qb, hqbe⟩ : ∃ qb, qb = wr.heap.size := ⟨_, rfl⟩
              rw [← hqbe] at hqb ⊢
              have hS5 : WorS w mb p (fun b => b = ab ∨ b = qb) (wdC i) (30 + i) X5 := worS_new HS.out hO (fun b hb => hb.imp id (fun e => by omega))
              have hqn : qb ≠ ab ∧ qb ≠ mb ∧ w.heap.size ≤ qb := by
                have h1 := lt_of_block HA.out
                have h2 := lt_of_block (worS_mb HS.out)
                have h3 : w.heap.size ≤ wr.heap.size := by obtain ⟨_, _, _, _, _, _, _, h⟩ := HS.out; exact h.size
                omega
              have hab5 := keep_old hO HA.out
              have hs1 : X5.setCell ⟨qb, 1, none⟩ (.bool bw) = putB X5 qb (.cells #[.bool true, .bool bw, .bool true] 46) := by rw [set_of hqb]; rfl
              have hq1 := putB_same (.cells #[.bool true, .bool bw, .bool true] 46) (lt_of_block hqb)
              have hs2 : (putB X5 qb (.cells #[.bool true, .bool bw, .bool true] 46)).setCell ⟨qb, 2, none⟩ (.bool bx) = putB X5 qb (.cells #[.bool true, .bool bw, .bool bx] 46) := by rw [set_of hq1, putB_putB]; rfl
              have hq2 := putB_same (.cells #[.bool true, .bool bw, .bool bx] 46) (lt_of_block hqb)
              have hS6 := worS_putB hS5 (.inr rfl) hqn.2.1 hqn.2.2 (.cells #[.bool true, .bool bw, .bool bx] 46)
              have hab6 := (putB_other (.cells #[.bool true, .bool bw, .bool bx] 46) hqn.1).trans hab5
              obtain ⟨k5, q5, z5⟩ := of_block hqb
              obtain ⟨k6, q6, z6⟩ := of_block hq1
              generalize putB X5 qb (.cells #[.bool true, .bool bw, .bool bx] 46) = Y2 at *
              generalize putB X5 qb (.cells #[.bool true, .bool bw, .bool true] 46) = Y1 at *
              obtain ⟨M0, hM0⟩ : ∃ M0 : World → Prop, M0 = (fun y => WorS w mb p (fun b => b = ab ∨ b = qb) (wdC i) (30 + i) y ∧ y.heap[qb]? = some (.cells #[.bool true, .bool bw, .bool bx] 46) ∧ y.heap[ab]? = some (.cells #[.bool true, .bool true, .bool true] 46)) := ⟨_, rfl⟩
              obtain ⟨M1, hM1'⟩ : ∃ M1 : World → Prop, M1 = (fun y => WorS w mb p (fun b => b = ab ∨ b = qb) (wdC (i + 1)) (30 + i + 1) y ∧ y.heap[qb]? = some (.cells #[.bool true, .bool bw, .bool bx] 46) ∧ y.heap[ab]? = some (.cells #[.bool true, .bool true, .bool true] 46)) := ⟨_, rfl⟩
              have HM0 : Hid (∀ x y, Old x y → M0 x → M0 y) := Lib.hid (fun x y ho h => by rw [hM0] at h ⊢; exact ⟨worS_old h.1 ho, keep_old ho h.2.1, keep_old ho h.2.2⟩)
              have HM1 : Hid (∀ x y, Old x y → M1 x → M1 y) := Lib.hid (fun x y ho h => by rw [hM1'] at h ⊢; exact ⟨worS_old h.1 ho, keep_old ho h.2.1, keep_old ho h.2.2⟩)
              have HQ0 : Hid (∀ {x}, M0 x → x.heap[qb]? = some (.cells #[.bool true, .bool bw, .bool bx] 46)) := Lib.hid (fun h => by rw [hM0] at h; exact h.2.1)
              have HQ1 : Hid (∀ {x}, M1 x → x.heap[qb]? = some (.cells #[.bool true, .bool bw, .bool bx] 46)) := Lib.hid (fun h => by rw [hM1'] at h; exact h.2.1)
              have HPU : Hid (∀ y, M0 y → Calls Try.prog 55 #[.int .u64 (ia : Nat), .int .u64 (E : Nat), .pointer (some ⟨mb, 0, none⟩)] y (RetPut w mb p (fun b => b = ab ∨ b = qb) (wdC (i + 1)) (30 + i + 1) y)) := Lib.hid (fun y h => by rw [hM0] at h; exact HPC.out _ _ h.1)
              have HMF : Hid (∀ x y, M0 x → WorS w mb p (fun b => b = ab ∨ b = qb) (wdC (i + 1)) (30 + i + 1) y → (∀ b, (b = ab ∨ b = qb) → y.heap[b]? = x.heap[b]?) → M1 y) := Lib.hid (fun x y h hY hK => by rw [hM0] at h; rw [hM1']; exact ⟨hY, (hK qb (.inr rfl)).trans h.2.1, (hK ab (.inl rfl)).trans h.2.2⟩)
              have HE1 : Hid (∀ x, M1 x → WorS w mb p (fun b => b = ab) (wdC (i + 1)) (30 + (i + 1)) x ∧ x.heap[ab]? = some (.cells #[.bool true, .bool true, .bool true] 46)) := Lib.hid (fun x h => by rw [hM1'] at h; exact ⟨worS_le (worS_less h.1 (fun b hb => .inl hb)) (by omega), h.2.2⟩)
              have HST : Hid (M0 Y2.drew) := Lib.hid (HM0.out _ _ (old_drew (old_refl _)) (by rw [hM0]; exact ⟨hS6, hq2, hab6⟩))
              clear hM0 hM1' hO hsz hqbe hqb hS5 hqn hab5 hq1 hq2 hS6 hab6 HPC ka qa za
              go_upto_region 25 with (fail)
              clear k5 q5 z5 k6 q6 z6 hs1 hs2 g1 g2 g3 g4
              refine wp_region_staged (S := StageP 17 M0 M1) 20 (by kernel_rfl) (by kernel_rfl) (by kernel_rfl) (by decide) (stageP_start HST.out) ?_
              apply walkedS_cons
              · intro l9 wS hz hn hS
                have hS9 := stageP_other 0 (by decide) hS
                clear hS
                go_wp2
                exact ⟨rfl, rfl, hS9⟩
              · rfl
              (try simp only [Act.put, List.setIfInBounds_toArray, List.set_cons_succ, List.set_cons_zero])
              apply walkedS_cons
              · intro l9 wS hz hn hS
                have hS9 := stageP_other 1 (by decide) hS
                clear hS
                go_wp2
                exact ⟨rfl, rfl, hS9⟩
              · rfl
              (try simp only [Act.put, List.setIfInBounds_toArray, List.set_cons_succ, List.set_cons_zero])
              apply walkedS_cons
              · intro l9 wS hz hn hS
                have hS9 := stageP_other 2 (by decide) hS
                clear hS
                go_wp2
                exact ⟨rfl, rfl, hS9⟩
              · rfl
              (try simp only [Act.put, List.setIfInBounds_toArray, List.set_cons_succ, List.set_cons_zero])
              apply walkedS_cons
              · intro l9 wS hz hn hS
                have hfin := fun y (hO : Old wS y) => stageP_quiet 3 (by decide) hS (HM0.out _ _ hO) (HM1.out _ _ hO)
                clear hS
                go_wp2_with fail
                (with_reducible refine (HFC.out _).mono ?_)
                rintro e y ⟨rfl, hO⟩
                have hf := hfin y hO
                clear hfin hO
                go_wp2
                exact ⟨rfl, rfl, hf⟩
              · rfl
              (try simp only [Act.put, List.setIfInBounds_toArray, List.set_cons_succ, List.set_cons_zero])
              apply walkedS_cons
              · intro l9 wS hz hn hS
                have hS9 := stageP_other 4 (by decide) hS
                clear hS
                go_wp2
                exact ⟨rfl, rfl, hS9⟩
              · rfl
              (try simp only [Act.put, List.setIfInBounds_toArray, List.set_cons_succ, List.set_cons_zero])
              apply walkedS_cons
              · intro l9 wS hz hn hS
                have hS9 := stageP_other 5 (by decide) hS
                clear hS
                go_wp2
                exact ⟨rfl, rfl, hS9⟩
              · rfl
              (try simp only [Act.put, List.setIfInBounds_toArray, List.set_cons_succ, List.set_cons_zero])
              apply walkedS_cons
              · intro l9 wS hz hn hS
                have hS9 := stageP_other 6 (by decide) hS
                clear hS
                go_wp2
                exact ⟨rfl, rfl, hS9⟩
              · rfl
              (try simp only [Act.put, List.setIfInBounds_toArray, List.set_cons_succ, List.set_cons_zero])
              apply walkedS_cons
              · intro l9 wS hz hn hS
                have hS9 := stageP_other 7 (by decide) hS
                clear hS
                go_wp2
                exact ⟨rfl, rfl, hS9⟩
              · rfl
              (try simp only [Act.put, List.setIfInBounds_toArray, List.set_cons_succ, List.set_cons_zero])
              apply walkedS_cons
              · intro l9 wS hz hn hS
                have hS9 := stageP_other 8 (by decide) hS
                clear hS
                go_wp2
                exact ⟨rfl, rfl, hS9⟩
              · rfl
              (try simp only [Act.put, List.setIfInBounds_toArray, List.set_cons_succ, List.set_cons_zero])
              apply walkedS_cons
              · intro l9 wS hz hn hS
                have hS9 := stageP_other 9 (by decide) hS
                clear hS
                go_wp2
                exact ⟨rfl, rfl, hS9⟩
              · rfl
              (try simp only [Act.put, List.setIfInBounds_toArray, List.set_cons_succ, List.set_cons_zero])
              apply walkedS_cons
              · intro l9 wS hz hn hS
                have hS9 := stageP_other 10 (by decide) hS
                clear hS
                go_wp2
                exact ⟨rfl, rfl, hS9⟩
              · rfl
              (try simp only [Act.put, List.setIfInBounds_toArray, List.set_cons_succ, List.set_cons_zero])
              apply walkedS_cons
              · intro l9 wS hz hn hS
                have hS9 := stageP_other 11 (by decide) hS
                clear hS
                go_wp2
                exact ⟨rfl, rfl, hS9⟩
              · rfl
              (try simp only [Act.put, List.setIfInBounds_toArray, List.set_cons_succ, List.set_cons_zero])
              apply walkedS_cons
              · intro l9 wS hz hn hS
                have hS9 := stageP_other 12 (by decide) hS
                clear hS
                go_wp2
                exact ⟨rfl, rfl, hS9⟩
              · rfl
              (try simp only [Act.put, List.setIfInBounds_toArray, List.set_cons_succ, List.set_cons_zero])
              apply walkedS_cons
              · intro l9 wS hz hn hS
                have hS9 := stageP_other 13 (by decide) hS
                clear hS
                go_wp2
                exact ⟨rfl, rfl, hS9⟩
              · rfl
              (try simp only [Act.put, List.setIfInBounds_toArray, List.set_cons_succ, List.set_cons_zero])
              apply walkedS_cons
              · intro l9 wS hz hn hS
                have hS9 := stageP_other 14 (by decide) hS
                obtain ⟨k9, -, -⟩ := of_block (stageP_fact (Φ := fun z => z.heap[qb]? = _) hS HQ0.out HQ1.out)
                clear hS
                go_wp2
                exact ⟨rfl, rfl, hS9⟩
              · rfl
              (try simp only [Act.put, List.setIfInBounds_toArray, List.set_cons_succ, List.set_cons_zero])
              apply walkedS_cons
              · intro l9 wS hz hn hS
                have hS9 := stageP_other 15 (by decide) hS
                clear hS
                go_wp2
                exact ⟨rfl, rfl, hS9⟩
              · rfl
              (try simp only [Act.put, List.setIfInBounds_toArray, List.set_cons_succ, List.set_cons_zero])
              apply walkedS_cons
              · intro l9 wS hz hn hS
                have hfin := fun y (hO : Old wS y) => stageP_quiet 16 (by decide) hS (HM0.out _ _ hO) (HM1.out _ _ hO)
                clear hS
                go_wp2_with fail
                (with_reducible refine (HWC.out _).mono ?_)
                rintro e y ⟨rfl, hO⟩
                have hf := hfin y hO
                clear hfin hO
                go_wp2
                exact ⟨rfl, rfl, hf⟩
              · rfl
              (try simp only [Act.put, List.setIfInBounds_toArray, List.set_cons_succ, List.set_cons_zero])
              apply walkedS_cons
              · intro l9 wS hz hn hS
                have hm0 := stageP_before hn hS
                have hc := HPU.out wS hm0
                clear hS
                go_wp2_with fail
                (with_reducible refine hc.mono ?_)
                rintro e y ⟨rfl, hY, hK⟩
                have hf := HMF.out _ _ hm0 hY hK
                clear hc hY hK hm0
                go_wp2
                exact ⟨rfl, rfl, stageP_done hz (by decide) hf⟩
              · rfl
              (try simp only [Act.put, List.setIfInBounds_toArray, List.set_cons_succ, List.set_cons_zero])
              apply walkedS_cons
              · intro l9 wS hz hn hS
                have hS9 := stageP_other 18 (by decide) hS
                clear hS
                go_wp2
                exact ⟨rfl, rfl, hS9⟩
              · rfl
              (try simp only [Act.put, List.setIfInBounds_toArray, List.set_cons_succ, List.set_cons_zero])
              apply walkedS_cons
              · intro l9 wS hz hn hS
                have hS9 := stageP_other 19 (by decide) hS
                clear hS
                go_wp2
                exact ⟨rfl, rfl, hS9⟩
              · rfl
              (try simp only [Act.put, List.setIfInBounds_toArray, List.set_cons_succ, List.set_cons_zero])
              apply walkedS_nil
              intro l9 y hz hall hS
              have hE := HE1.out _ (stageP_behind (hall 17 (by decide)) hS)
              have HE := Lib.hid hE
              clear hall hS hE hz l9
              show wpList _ _ _ [] _ _
              go_wp2
              refine Met.intro (hJ3 _ _ (by kernel_rfl) ?_ ?_)
              · exact ⟨i + 1, HLT.out, by show Value.int .i64 ((i : Int) + 1) = _; simp, rfl, HE.out.1, HE.out.2⟩
              · rw [H8.out]
                show 16 - (intOf (Value.int .i64 ((i : Int) + 1))).toNat < 16 - (intOf (Value.int .i64 (i : Int))).toNat
                have := HLT.out
                simp [intOf]
                omega
        · skip
          have hlt : i < 24 := by omega
          have e1 : (i : Int) < 24 := by omega
          obtain ⟨i8, hi8⟩ : ∃ i8, i * 8 = i8 := ⟨_, rfl⟩
          obtain ⟨ia, hia⟩ : ∃ ia, 16384 + i8 = ia := ⟨_, rfl⟩
          obtain ⟨fr, hfr⟩ : ∃ fr, frN i = fr := ⟨_, rfl⟩
          obtain ⟨F4, hF4⟩ : ∃ F4, fr * 4096 = F4 := ⟨_, rfl⟩
          have hfl := frN_lt i
          have c1 : IntKind.u64.wrap (i : Int) = (i : Int) := IntWalk.u64_in _ (by omega)
          have c2 : IntKind.u64.wrap ((i : Int) * 8) = (i8 : Int) := by rw [IntWalk.u64_in _ (by omega)]; omega
          have c3 : IntKind.u64.wrap (16384 + (i8 : Int)) = (ia : Int) := by rw [IntWalk.u64_in _ (by omega)]; omega
          have c4 : IntKind.u64.wrap (fr : Int) = (fr : Int) := IntWalk.u64_in _ (by omega)
          have c5 : IntKind.u64.wrap ((fr : Int) * 4096) = (F4 : Int) := by rw [IntWalk.u64_in _ (by omega)]; omega
          obtain ⟨bw, hbw⟩ : ∃ bw, decide (i % 5 ≠ 4) = bw := ⟨_, rfl⟩
          obtain ⟨bx, hbx⟩ : ∃ bx, decide (i % 3 ≠ 2) = bx := ⟨_, rfl⟩
          have g1 : ((i : Int).tmod 5 != 4) = bw := by
            rw [Int.tmod_eq_emod_of_nonneg (by omega), ← hbw]
            by_cases h : i % 5 = 4
            · rw [decide_eq_false (by simp [h])]; simp; omega
            · rw [decide_eq_true h]; simp; omega
          have g2 : ((i : Int).tmod 3 != 2) = bx := by
            rw [Int.tmod_eq_emod_of_nonneg (by omega), ← hbx]
            by_cases h : i % 3 = 2
            · rw [decide_eq_false (by simp [h])]; simp; omega
            · rw [decide_eq_true h]; simp; omega
          have g3 : ((i : Int) % 5 != 4) = bw := by rw [← g1, Int.tmod_eq_emod_of_nonneg (by omega)]
          have g4 : ((i : Int) % 3 != 2) = bx := by rw [← g2, Int.tmod_eq_emod_of_nonneg (by omega)]
          obtain ⟨E, hE⟩ : ∃ E, encW 2 3 3 F4 true bw bx 0 = E := ⟨_, rfl⟩
          have hEl : E < 18446744073709551616 := by rw [← hE]; exact enc_lt64 _ _ _ _ _ _ _ _
          have hwd : updW (wdB i) ia E = wdB (i + 1) := by
            subst hE hbw hbx hia hi8 hF4 hfr; rfl
          have hpc := fun B y (h : WorS w mb p B (wdB i) (6 + i) y) => put14_calls h (by omega) ia E (okM40 (by omega) (by omega)) (by omega) hEl
          have hfc := fun y => frame14_calls i (by omega) y
          have hwc := fun y => word14_calls 2 3 3 F4 true bw bx 0 y
          rw [hfr] at hfc
          rw [hE] at hwc
          rw [hwd] at hpc
          have HPC := Lib.hid hpc
          have HFC := Lib.hid hfc
          have HWC := Lib.hid hwc
          have HLT := Lib.hid hlt
          clear hE hEl hwd hbw hbx hpc hfc hwc hlt hi hi3 hi8 hia hfr hF4 hfl
          obtain ⟨ka, qa, za⟩ := of_block HA.out
          go_upto_region 16 with (fail)
          have hO := old_alloc (old_refl wr) (.cells #[.bool true, .bool true, .bool true] 46)
          have hqb := new_block wr (.cells #[.bool true, .bool true, .bool true] 46)
          have hsz : (wr.alloc (.cells #[.bool true, .bool true, .bool true] 46)).heap.size = wr.heap.size + 1 := World.size_alloc _ _
          generalize wr.alloc (.cells #[.bool true, .bool true, .bool true] 46) = X5 at *
          obtain ⟨qb, hqbe⟩ : ∃ qb, qb = wr.heap.size := ⟨_, rfl⟩
          rw [← hqbe] at hqb ⊢
          have hS5 : WorS w mb p (fun b => b = ab ∨ b = qb) (wdB i) (6 + i) X5 := worS_new HS.out hO (fun b hb => hb.imp id (fun e => by omega))
          have hqn : qb ≠ ab ∧ qb ≠ mb ∧ w.heap.size ≤ qb := by
            have h1 := lt_of_block HA.out
            have h2 := lt_of_block (worS_mb HS.out)
            have h3 : w.heap.size ≤ wr.heap.size := by obtain ⟨_, _, _, _, _, _, _, h⟩ := HS.out; exact h.size
            omega
          have hab5 := keep_old hO HA.out
          have hs1 : X5.setCell ⟨qb, 1, none⟩ (.bool bw) = putB X5 qb (.cells #[.bool true, .bool bw, .bool true] 46) := by rw [set_of hqb]; rfl
          have hq1 := putB_same (.cells #[.bool true, .bool bw, .bool true] 46) (lt_of_block hqb)
          have hs2 : (putB X5 qb (.cells #[.bool true, .bool bw, .bool true] 46)).setCell ⟨qb, 2, none⟩ (.bool bx) = putB X5 qb (.cells #[.bool true, .bool bw, .bool bx] 46) := by rw [set_of hq1, putB_putB]; rfl
          have hq2 := putB_same (.cells #[.bool true, .bool bw, .bool bx] 46) (lt_of_block hqb)
          have hS6 := worS_putB hS5 (.inr rfl) hqn.2.1 hqn.2.2 (.cells #[.bool true, .bool bw, .bool bx] 46)
          have hab6 := (putB_other (.cells #[.bool true, .bool bw, .bool bx] 46) hqn.1).trans hab5
          obtain ⟨k5, q5, z5⟩ := of_block hqb
          obtain ⟨k6, q6, z6⟩ := of_block hq1
          generalize putB X5 qb (.cells #[.bool true, .bool bw, .bool bx] 46) = Y2 at *
          generalize putB X5 qb (.cells #[.bool true, .bool bw, .bool true] 46) = Y1 at *
          obtain ⟨M0, hM0⟩ : ∃ M0 : World → Prop, M0 = (fun y => WorS w mb p (fun b => b = ab ∨ b = qb) (wdB i) (6 + i) y ∧ y.heap[qb]? = some (.cells #[.bool true, .bool bw, .bool bx] 46) ∧ y.heap[ab]? = some (.cells #[.bool true, .bool true, .bool true] 46)) := ⟨_, rfl⟩
          obtain ⟨M1, hM1'⟩ : ∃ M1 : World → Prop, M1 = (fun y => WorS w mb p (fun b => b = ab ∨ b = qb) (wdB (i + 1)) (6 + i + 1) y ∧ y.heap[qb]? = some (.cells #[.bool true, .bool bw, .bool bx] 46) ∧ y.heap[ab]? = some (.cells #[.bool true, .bool true, .bool true] 46)) := ⟨_, rfl⟩
          have HM0 : Hid (∀ x y, Old x y → M0 x → M0 y) := Lib.hid (fun x y ho h => by rw [hM0] at h ⊢; exact ⟨worS_old h.1 ho, keep_old ho h.2.1, keep_old ho h.2.2⟩)
          have HM1 : Hid (∀ x y, Old x y → M1 x → M1 y) := Lib.hid (fun x y ho h => by rw [hM1'] at h ⊢; exact ⟨worS_old h.1 ho, keep_old ho h.2.1, keep_old ho h.2.2⟩)
          have HQ0 : Hid (∀ {x}, M0 x → x.heap[qb]? = some (.cells #[.bool true, .bool bw, .bool bx] 46)) := Lib.hid (fun h => by rw [hM0] at h; exact h.2.1)
          have HQ1 : Hid (∀ {x}, M1 x → x.heap[qb]? = some (.cells #[.bool true, .bool bw, .bool bx] 46)) := Lib.hid (fun h => by rw [hM1'] at h; exact h.2.1)
          have HPU : Hid (∀ y, M0 y → Calls Try.prog 55 #[.int .u64 (ia : Nat), .int .u64 (E : Nat), .pointer (some ⟨mb, 0, none⟩)] y (RetPut w mb p (fun b => b = ab ∨ b = qb) (wdB (i + 1)) (6 + i + 1) y)) := Lib.hid (fun y h => by rw [hM0] at h; exact HPC.out _ _ h.1)
          have HMF : Hid (∀ x y, M0 x → WorS w mb p (fun b => b = ab ∨ b = qb) (wdB (i + 1)) (6 + i + 1) y → (∀ b, (b = ab ∨ b = qb) → y.heap[b]? = x.heap[b]?) → M1 y) := Lib.hid (fun x y h hY hK => by rw [hM0] at h; rw [hM1']; exact ⟨hY, (hK qb (.inr rfl)).trans h.2.1, (hK ab (.inl rfl)).trans h.2.2⟩)
          have HE1 : Hid (∀ x, M1 x → WorS w mb p (fun b => b = ab) (wdB (i + 1)) (6 + (i + 1)) x ∧ x.heap[ab]? = some (.cells #[.bool true, .bool true, .bool true] 46)) := Lib.hid (fun x h => by rw [hM1'] at h; exact ⟨worS_le (worS_less h.1 (fun b hb => .inl hb)) (by omega), h.2.2⟩)
          have HST : Hid (M0 Y2.drew) := Lib.hid (HM0.out _ _ (old_drew (old_refl _)) (by rw [hM0]; exact ⟨hS6, hq2, hab6⟩))
          clear hM0 hM1' hO hsz hqbe hqb hS5 hqn hab5 hq1 hq2 hS6 hab6 HPC ka qa za
          go_upto_region 18 with (fail)
          clear k5 q5 z5 k6 q6 z6 hs1 hs2 g1 g2 g3 g4
          refine wp_region_staged (S := StageP 14 M0 M1) 17 (by kernel_rfl) (by kernel_rfl) (by kernel_rfl) (by decide) (stageP_start HST.out) ?_
          apply walkedS_cons
          · intro l9 wS hz hn hS
            have hS9 := stageP_other 0 (by decide) hS
            clear hS
            go_wp2
            exact ⟨rfl, rfl, hS9⟩
          · rfl
          (try simp only [Act.put, List.setIfInBounds_toArray, List.set_cons_succ, List.set_cons_zero])
          apply walkedS_cons
          · intro l9 wS hz hn hS
            have hS9 := stageP_other 1 (by decide) hS
            clear hS
            go_wp2
            exact ⟨rfl, rfl, hS9⟩
          · rfl
          (try simp only [Act.put, List.setIfInBounds_toArray, List.set_cons_succ, List.set_cons_zero])
          apply walkedS_cons
          · intro l9 wS hz hn hS
            have hS9 := stageP_other 2 (by decide) hS
            clear hS
            go_wp2
            exact ⟨rfl, rfl, hS9⟩
          · rfl
          (try simp only [Act.put, List.setIfInBounds_toArray, List.set_cons_succ, List.set_cons_zero])
          apply walkedS_cons
          · intro l9 wS hz hn hS
            have hS9 := stageP_other 3 (by decide) hS
            clear hS
            go_wp2
            exact ⟨rfl, rfl, hS9⟩
          · rfl
          (try simp only [Act.put, List.setIfInBounds_toArray, List.set_cons_succ, List.set_cons_zero])
          apply walkedS_cons
          · intro l9 wS hz hn hS
            have hS9 := stageP_other 4 (by decide) hS
            clear hS
            go_wp2
            exact ⟨rfl, rfl, hS9⟩
          · rfl
          (try simp only [Act.put, List.setIfInBounds_toArray, List.set_cons_succ, List.set_cons_zero])
          apply walkedS_cons
          · intro l9 wS hz hn hS
            have hS9 := stageP_other 5 (by decide) hS
            clear hS
            go_wp2
            exact ⟨rfl, rfl, hS9⟩
          · rfl
          (try simp only [Act.put, List.setIfInBounds_toArray, List.set_cons_succ, List.set_cons_zero])
          apply walkedS_cons
          · intro l9 wS hz hn hS
            have hS9 := stageP_other 6 (by decide) hS
            clear hS
            go_wp2
            exact ⟨rfl, rfl, hS9⟩
          · rfl
          (try simp only [Act.put, List.setIfInBounds_toArray, List.set_cons_succ, List.set_cons_zero])
          apply walkedS_cons
          · intro l9 wS hz hn hS
            have hS9 := stageP_other 7 (by decide) hS
            clear hS
            go_wp2
            exact ⟨rfl, rfl, hS9⟩
          · rfl
          (try simp only [Act.put, List.setIfInBounds_toArray, List.set_cons_succ, List.set_cons_zero])
          apply walkedS_cons
          · intro l9 wS hz hn hS
            have hfin := fun y (hO : Old wS y) => stageP_quiet 8 (by decide) hS (HM0.out _ _ hO) (HM1.out _ _ hO)
            clear hS
            go_wp2_with fail
            (with_reducible refine (HFC.out _).mono ?_)
            rintro e y ⟨rfl, hO⟩
            have hf := hfin y hO
            clear hfin hO
            go_wp2
            exact ⟨rfl, rfl, hf⟩
          · rfl
          (try simp only [Act.put, List.setIfInBounds_toArray, List.set_cons_succ, List.set_cons_zero])
          apply walkedS_cons
          · intro l9 wS hz hn hS
            have hS9 := stageP_other 9 (by decide) hS
            clear hS
            go_wp2
            exact ⟨rfl, rfl, hS9⟩
          · rfl
          (try simp only [Act.put, List.setIfInBounds_toArray, List.set_cons_succ, List.set_cons_zero])
          apply walkedS_cons
          · intro l9 wS hz hn hS
            have hS9 := stageP_other 10 (by decide) hS
            clear hS
            go_wp2
            exact ⟨rfl, rfl, hS9⟩
          · rfl
          (try simp only [Act.put, List.setIfInBounds_toArray, List.set_cons_succ, List.set_cons_zero])
          apply walkedS_cons
          · intro l9 wS hz hn hS
            have hS9 := stageP_other 11 (by decide) hS
            obtain ⟨k9, -, -⟩ := of_block (stageP_fact (Φ := fun z => z.heap[qb]? = _) hS HQ0.out HQ1.out)
            clear hS
            go_wp2
            exact ⟨rfl, rfl, hS9⟩
          · rfl
          (try simp only [Act.put, List.setIfInBounds_toArray, List.set_cons_succ, List.set_cons_zero])
          apply walkedS_cons
          · intro l9 wS hz hn hS
            have hS9 := stageP_other 12 (by decide) hS
            clear hS
            go_wp2
            exact ⟨rfl, rfl, hS9⟩
          · rfl
          (try simp only [Act.put, List.setIfInBounds_toArray, List.set_cons_succ, List.set_cons_zero])
          apply walkedS_cons
          · intro l9 wS hz hn hS
            have hfin := fun y (hO : Old wS y) => stageP_quiet 13 (by decide) hS (HM0.out _ _ hO) (HM1.out _ _ hO)
            clear hS
            go_wp2_with fail
            (with_reducible refine (HWC.out _).mono ?_)
            rintro e y ⟨rfl, hO⟩
            have hf := hfin y hO
            clear hfin hO
            go_wp2
            exact ⟨rfl, rfl, hf⟩
          · rfl
          (try simp only [Act.put, List.setIfInBounds_toArray, List.set_cons_succ, List.set_cons_zero])
          apply walkedS_cons
          · intro l9 wS hz hn hS
            have hm0 := stageP_before hn hS
            have hc := HPU.out wS hm0
            clear hS
            go_wp2_with fail
            (with_reducible refine hc.mono ?_)
            rintro e y ⟨rfl, hY, hK⟩
            have hf := HMF.out _ _ hm0 hY hK
            clear hc hY hK hm0
            go_wp2
            exact ⟨rfl, rfl, stageP_done hz (by decide) hf⟩
          · rfl
          (try simp only [Act.put, List.setIfInBounds_toArray, List.set_cons_succ, List.set_cons_zero])
          apply walkedS_cons
          · intro l9 wS hz hn hS
            have hS9 := stageP_other 15 (by decide) hS
            clear hS
            go_wp2
            exact ⟨rfl, rfl, hS9⟩
          · rfl
          (try simp only [Act.put, List.setIfInBounds_toArray, List.set_cons_succ, List.set_cons_zero])
          apply walkedS_cons
          · intro l9 wS hz hn hS
            have hS9 := stageP_other 16 (by decide) hS
            clear hS
            go_wp2
            exact ⟨rfl, rfl, hS9⟩
          · rfl
          (try simp only [Act.put, List.setIfInBounds_toArray, List.set_cons_succ, List.set_cons_zero])
          apply walkedS_nil
          intro l9 y hz hall hS
          have hE := HE1.out _ (stageP_behind (hall 14 (by decide)) hS)
          have HE := Lib.hid hE
          clear hall hS hE hz l9
          show wpList _ _ _ [] _ _
          go_wp2
          refine Met.intro (hJ2 _ _ (by kernel_rfl) ?_ ?_)
          · exact ⟨i + 1, HLT.out, by show Value.int .i64 ((i : Int) + 1) = _; simp, rfl, HE.out.1, HE.out.2⟩
          · rw [H8.out]
            show 24 - (intOf (Value.int .i64 ((i : Int) + 1))).toNat < 24 - (intOf (Value.int .i64 (i : Int))).toNat
            have := HLT.out
            simp [intOf]
            omega
    · skip
      have hlt : i < 3 := by omega
      have e1 : (i : Int) < 3 := by omega
      obtain ⟨i1, hi1⟩ : ∃ i1, i + 1 = i1 := ⟨_, rfl⟩
      obtain ⟨i2, hi2⟩ : ∃ i2, i + 2 = i2 := ⟨_, rfl⟩
      obtain ⟨a1, ha1⟩ : ∃ a1, i1 * 4096 = a1 := ⟨_, rfl⟩
      obtain ⟨a2, ha2⟩ : ∃ a2, i2 * 4096 = a2 := ⟨_, rfl⟩
      obtain ⟨fr, hfr⟩ : ∃ fr, frN i = fr := ⟨_, rfl⟩
      obtain ⟨fa, hfa⟩ : ∃ fa, fr * 4096 = fa := ⟨_, rfl⟩
      have hfl := frN_lt i
      obtain ⟨E1, hE1⟩ : ∃ E1, encW 2 (i : Nat) 1 a2 false false false 0 = E1 := ⟨_, rfl⟩
      obtain ⟨E2, hE2⟩ : ∃ E2, encW 1 (i : Nat) 1 a1 false false false 0 = E2 := ⟨_, rfl⟩
      have hl1 : E1 < 18446744073709551616 := by rw [← hE1]; exact enc_lt64 _ _ _ _ _ _ _ _
      have hl2 : E2 < 18446744073709551616 := by rw [← hE2]; exact enc_lt64 _ _ _ _ _ _ _ _
      have c1 : IntKind.u64.wrap ((i : Int) + 1) = (i1 : Int) := by rw [IntWalk.u64_in _ (by omega)]; omega
      have c2 : IntKind.u64.wrap ((i1 : Int) * 4096) = (a1 : Int) := by rw [IntWalk.u64_in _ (by omega)]; omega
      have c3 : IntKind.u64.wrap ((i : Int) + 2) = (i2 : Int) := by rw [IntWalk.u64_in _ (by omega)]; omega
      have c4 : IntKind.u64.wrap ((i2 : Int) * 4096) = (a2 : Int) := by rw [IntWalk.u64_in _ (by omega)]; omega
      have c5 : IntKind.u64.wrap (fr : Int) = (fr : Int) := IntWalk.u64_in _ (by omega)
      have c6 : IntKind.u64.wrap ((fr : Int) * 4096) = (fa : Int) := by rw [IntWalk.u64_in _ (by omega)]; omega
      have hwd : updW (updW (wdA i) a1 E1) fa E2 = wdA (i + 1) := by
        subst hE1 hE2 ha1 ha2 hi1 hi2 hfa hfr; rfl
      have hp1 := fun y (h : WorS w mb p (fun _ => False) (wdA i) (2 * i) y) => put14_calls h (by omega) a1 E1 (okM40 (by omega) (by omega)) (by omega) hl1
      have hp2 := fun y (h : WorS w mb p (fun _ => False) (updW (wdA i) a1 E1) (2 * i + 1) y) => put14_calls h (by omega) fa E2 (okM40 (by omega) (by omega)) (by omega) hl2
      have hfc := fun y => frame14_calls i (by omega) y
      have hw1 := fun y => word14_calls 2 (i : Nat) 1 a2 false false false 0 y
      have hw2 := fun y => word14_calls 1 (i : Nat) 1 a1 false false false 0 y
      rw [hfr] at hfc
      rw [hE1] at hw1
      rw [hE2] at hw2
      have HF := Lib.hid (And.intro hp1 (And.intro hp2 (And.intro hfc (And.intro hw1 (And.intro hw2 (And.intro hwd hlt))))))
      clear hi1 hi2 ha1 ha2 hfr hfa hfl hE1 hE2 hl1 hl2 hwd hp1 hp2 hfc hw1 hw2 hi hi3 hlt
      go_wp2_with fail
      (with_reducible refine (HF.out.2.2.2.1 _).mono ?_)
      rintro e y1 ⟨rfl, hO1⟩
      have hp := HF.out.1 _ (worS_old HS.out hO1)
      clear hO1
      go_wp2_with fail
      (with_reducible refine hp.mono ?_)
      rintro e y2 ⟨rfl, hS2, -⟩
      have HS2 := Lib.hid hS2
      clear hp hS2
      go_wp2_with fail
      (with_reducible refine (HF.out.2.2.1 _).mono ?_)
      rintro e y3 ⟨rfl, hO3⟩
      have HS3 := Lib.hid (worS_old HS2.out hO3)
      clear hO3
      go_wp2_with fail
      (with_reducible refine (HF.out.2.2.2.2.1 _).mono ?_)
      rintro e y4 ⟨rfl, hO4⟩
      have hp := HF.out.2.1 _ (worS_old HS3.out hO4)
      clear hO4
      go_wp2_with fail
      (with_reducible refine hp.mono ?_)
      rintro e y5 ⟨rfl, hS5, -⟩
      have hS5 := worS_le hS5 (M := 2 * (i + 1)) (by omega)
      rw [HF.out.2.2.2.2.2.1] at hS5
      have HS5 := Lib.hid hS5
      clear hp hS5
      go_wp2
      refine Met.intro (hJ1 _ _ (by kernel_rfl) ?_ ?_)
      · exact ⟨i + 1, HF.out.2.2.2.2.2.2, by show Value.int .i64 ((i : Int) + 1) = _; simp, rfl, by first | exact HS5.out | exact worS_old HS5.out (old_drew (old_refl _))⟩
      · rw [H8.out]
        show 3 - (intOf (Value.int .i64 ((i : Int) + 1))).toNat < 3 - (intOf (Value.int .i64 (i : Int))).toNat
        have := HF.out.2.2.2.2.2.2
        simp [intOf]
        omega
end Go.Proofs.Ytlbehhbicmmdoaa
namespace Go.Proofs.Ytlbehhbicmmdoaa
set_option linter.unusedVariables false
set_option linter.unusedSimpArgs false
open Go.RowKit
end Go.Proofs.Ytlbehhbicmmdoaa
namespace Go.Proofs.Ytlbehhbicmmdoaa
set_option linter.unusedVariables false
set_option linter.unusedSimpArgs false
open Go.RowKit
end Go.Proofs.Ytlbehhbicmmdoaa
namespace Go.Proofs.Ytlbehhbicmmdoaa
set_option linter.unusedVariables false
set_option linter.unusedSimpArgs false
open Go.RowKit
theorem eq_permN (d : Nat) (x0 x1 x2 y0 y1 y2 : Bool) (w : World) :
    (Op.equalIn (d + 2) 46 (.agg #[.bool x0, .bool x1, .bool x2]) (.agg #[.bool y0, .bool y1, .bool y2])).run Try.prog w = .ok (x0 == y0 && (x1 == y1 && (x2 == y2 && true))) w := by
  refine same_struct (d := d + 1) Try.underlying46 (by kernel_rfl) ?_
  refine same_cons (by rfl) (by go_simp; rfl) (by go_simp; rfl) (by go_simp) ?_
  refine same_cons (by rfl) (by go_simp; rfl) (by go_simp; rfl) (by go_simp) ?_
  refine same_cons (by rfl) (by go_simp; rfl) (by go_simp; rfl) (by go_simp) ?_
  exact same_nil
end Go.Proofs.Ytlbehhbicmmdoaa
/- Layer 14: a memory beside blocks of one's own; comparisons; a walk without a memory. -/
namespace Go.Proofs.Ytlbehhbicmmdoaa
set_option linter.unusedVariables false
set_option linter.unusedSimpArgs false
open Go.RowKit
/-- A memory of 40 frames, blocks B of one's own; all that was there ahead is as it was. -/
def MemS (w0 : World) (p : Nat) (wd : Nat → Nat) (N : Nat) (B : Nat → Prop) (x : World) : Prop :=
  ∃ X : Nat → Prop, (∀ b, b < w0.heap.size → X b) ∧ (∀ b, B b → X b) ∧ IsMemW x X p 40 wd N ∧ Old w0 x
section
variable {w0 x y : World} {p N M mb : Nat} {B B' : Nat → Prop} {wd : Nat → Nat}
theorem memS_of (h : WorS w0 mb p B wd N x) : MemS w0 p wd N B x := by
  obtain ⟨X, h1, h2, h3, h4, h5, h6, h7⟩ := h
  exact ⟨X, h2, h4, h5, h7⟩
theorem memS_old (h : MemS w0 p wd N B x) (ho : Old x y) : MemS w0 p wd N B y := by
  obtain ⟨X, h1, h2, h3, h4⟩ := h
  exact ⟨X, h1, h2, memW_old h3 ho, old_then h4 ho⟩
theorem memS_less (h : MemS w0 p wd N B x) (hB : ∀ b, B' b → B b) : MemS w0 p wd N B' x := by
  obtain ⟨X, h1, h2, h3, h4⟩ := h
  exact ⟨X, h1, fun b hb => h2 b (hB b hb), h3, h4⟩
theorem memS_new (h : MemS w0 p wd N B x) (ho : Old x y) (hB : ∀ b, B' b → B b ∨ x.heap.size ≤ b) : MemS w0 p wd N B' y := by
  obtain ⟨X, h1, h2, h3, h4⟩ := h
  exact ⟨fun b => X b ∨ x.heap.size ≤ b, fun b hb => .inl (h1 b hb), fun b hb => (hB b hb).imp (h2 b) id, memW_old (memW_more h3 (fun b hb => hb)) ho, old_then h4 ho⟩
theorem memS_word (h : MemS w0 p wd N B x) : Old w0 x := by
  obtain ⟨X, h1, h2, h3, h4⟩ := h
  exact h4
/-- What a walk tells. -/
def RetW (w0 : World) (p : Nat) (wd : Nat → Nat) (N : Nat) (B : Nat → Prop) (x : World) (q : O8 × F5 × Nat) (e : Ending) (y : World) : Prop :=
  e = .returned (.tuple #[.agg q.1.cells, .agg q.2.1.cells, .int .i64 (q.2.2 : Nat)]) ∧ MemS w0 p wd N B y ∧ (∀ b o, B b → x.heap[b]? = some o → y.heap[b]? = some o) ∧ x.heap.size ≤ y.heap.size
theorem retW_of {X : Nat → Prop} {q : O8 × F5 × Nat} {e : Ending} (h1 : ∀ b, b < w0.heap.size → X b) (h2 : ∀ b, B b → X b) (h4 : Old w0 x) (h : RetSec x X p 40 wd N q e y) : RetW w0 p wd N B x q e y := by
  obtain ⟨he, hm, ho⟩ := h
  refine ⟨he, ⟨X, h1, h2, hm, ?_⟩, fun b o hb hx => keep_only ho (fun f => f (h2 b hb)) hx, ho.size⟩
  exact Only.to_below ((Only.of_below h4).step ho (fun b hb f => by
    have := h1 b
    exact absurd (this (by omega)) f))
theorem memS_walk (h : MemS w0 p wd N B x) (hN : N < 3999999800) (two root va : Nat) (on : Bool) (htwo : two < 18446744073709551616) (hroot : root < 18446744073709551616) (hva : va < 18446744073709551616) (access : Int) :
    Calls Try.prog 30 #[.pointer (some ⟨p, 0, none⟩), .agg #[.int .u64 (two : Nat), .bool on, .int .u64 (root : Nat)], .int .u64 (va : Nat), .int .i64 access] x (RetW w0 p wd (N + 24) B x (nestN (rawM 40 wd) (okM 40) two on root va access)) := by
  obtain ⟨X, h1, h2, h3, h4⟩ := h
  exact (nest_calls h3 hN two root va on htwo hroot hva access).mono fun e y hr => retW_of h1 h2 h4 hr
theorem memS_second (h : MemS w0 p wd N B x) (hN : N < 3999999800) (two ipa : Nat) (htwo : two < 18446744073709551616) (hipa : ipa < 18446744073709551616) (access : Int) :
    Calls Try.prog 33 #[.pointer (some ⟨p, 0, none⟩), .int .u64 (two : Nat), .int .u64 (ipa : Nat), .int .i64 access] x (RetW w0 p wd (N + 4) B x (secondN (rawM 40 wd) (okM 40) two ipa access)) := by
  obtain ⟨X, h1, h2, h3, h4⟩ := h
  exact (second_calls h3 (by omega) two ipa htwo hipa access).mono fun e y hr => retW_of h1 h2 h4 hr
end
/-- Are two places alike? -/
theorem eq_out (a b : O8) (w : World) : (Op.equalIn 10000 65 (.agg a.cells) (.agg b.cells)).run Try.prog w = .ok ((a.fr : Int) == b.fr && ((a.ip : Int) == b.ip && ((a.r1 == b.r1 && (a.w1 == b.w1 && (a.x1 == b.x1 && true))) && ((a.r2 == b.r2 && (a.w2 == b.w2 && (a.x2 == b.x2 && true))) && true)))) w := by
  obtain ⟨a1, a2, a3, a4, a5, a6, a7, a8⟩ := a
  obtain ⟨b1, b2, b3, b4, b5, b6, b7, b8⟩ := b
  unfold O8.cells
  refine same_struct (d := 9999) Try.underlying65 (by kernel_rfl) ?_
  refine same_cons (by rfl) (by go_simp; rfl) (by go_simp; rfl) (by go_simp) ?_
  refine same_cons (by rfl) (by go_simp; rfl) (by go_simp; rfl) (by go_simp) ?_
  refine same_cons (a := .agg #[.bool a3, .bool a4, .bool a5]) (b := .agg #[.bool b3, .bool b4, .bool b5]) (by rfl) (by go_simp) (by go_simp) (eq_permN 9997 a3 a4 a5 b3 b4 b5 w) ?_
  refine same_cons (a := .agg #[.bool a6, .bool a7, .bool a8]) (b := .agg #[.bool b6, .bool b7, .bool b8]) (by rfl) (by go_simp) (by go_simp) (eq_permN 9997 a6 a7 a8 b6 b7 b8 w) ?_
  exact same_nil
theorem eq_fau (a b : F5) (w : World) : (Op.equalIn 10000 67 (.agg a.cells) (.agg b.cells)).run Try.prog w = .ok (a.st == b.st && (a.k == b.k && (a.lv == b.lv && ((a.ad : Int) == b.ad && (a.store == b.store && true))))) w := by
  obtain ⟨a1, a2, a3, a4, a5⟩ := a
  obtain ⟨b1, b2, b3, b4, b5⟩ := b
  unfold F5.cells
  refine same_struct (d := 9999) Try.underlying67 (by kernel_rfl) ?_
  refine same_cons (by rfl) (by go_simp; rfl) (by go_simp; rfl) (by go_simp) ?_
  refine same_cons (by rfl) (by go_simp; rfl) (by go_simp; rfl) (by go_simp) ?_
  refine same_cons (by rfl) (by go_simp; rfl) (by go_simp; rfl) (by go_simp) ?_
  refine same_cons (by rfl) (by go_simp; rfl) (by go_simp; rfl) (by go_simp) ?_
  refine same_cons (by rfl) (by go_simp; rfl) (by go_simp; rfl) (by go_simp) ?_
  exact same_nil
theorem eq_out_self (a : O8) (w : World) : (Op.equalIn 10000 65 (.agg a.cells) (.agg a.cells)).run Try.prog w = .ok true w := by
  rw [eq_out]; simp
theorem eq_fau_self (a : F5) (w : World) : (Op.equalIn 10000 67 (.agg a.cells) (.agg a.cells)).run Try.prog w = .ok true w := by
  rw [eq_fau]; simp
set_option maxRecDepth 100000 in
theorem told_v3 : secondN (rawM 40 (wdC 16)) (okM 40) 4096 16384 2 = (O0, ⟨2, 2, -1, 16384, true⟩, 4) := by kernel_rfl
end Go.Proofs.Ytlbehhbicmmdoaa
/- Layer 14: Second and Walk without a memory. -/
namespace Go.Proofs.Ytlbehhbicmmdoaa
set_option linter.unusedVariables false
set_option linter.unusedSimpArgs false
open Go.RowKit
theorem old_putB2 {w x : World} {b1 b2 : Nat} {o1 o2 : Obj} (h : Old w x) (h1 : w.heap.size ≤ b1) (h2 : w.heap.size ≤ b2) : Old w (putB (putB x b1 o1) b2 o2) := old_put (old_put h _ h1) _ h2
set_option maxHeartbeats 8000000 in
set_option maxRecDepth 100000 in
theorem second_nil (two ipa : Nat) (access : Int) (w : World) :
    Calls Try.prog 33 #[.pointer none, .int .u64 (two : Nat), .int .u64 (ipa : Nat), .int .i64 access] w (RetB w (.tuple #[.agg O0.cells, .agg (⟨2, 4, -1, ipa, decide (access = 2)⟩ : F5).cells, .int .i64 0])) := by
  obtain ⟨sto, hsto⟩ : ∃ sto, (access == 2) = sto := ⟨_, rfl⟩
  have hsd : decide (access = 2) = sto := by rw [← hsto]; rfl
  rw [hsd]
  clear hsd
  go_enter Try.func33, Try.ntmps33
  go_upto_region 2 with (fail)
  have hH := holds_new #[Value.int .i64 2, .int .i64 4, .int .i64 (-1), .int .u64 (ipa : Nat), .bool sto] 67 (holds_new #[Value.int .i64 0, .int .i64 0, .int .i64 0, .int .u64 0, .bool false] 67 (holds_new #[Value.int .i64 0, .int .u64 0, .bool false, .bool false, .bool false, .bool false, .bool false, .bool false] 65 (holds_new #[.pointer none] 61 (holds_nil w))))
  simp only [World.size_alloc] at hH
  generalize ((((w.alloc (.cells #[.pointer none] 61)).alloc (.cells #[Value.int .i64 0, .int .u64 0, .bool false, .bool false, .bool false, .bool false, .bool false, .bool false] 65)).alloc (.cells #[Value.int .i64 0, .int .i64 0, .int .i64 0, .int .u64 0, .bool false] 67)).alloc (.cells #[Value.int .i64 2, .int .i64 4, .int .i64 (-1), .int .u64 (ipa : Nat), .bool sto] 67)) = X1 at *
  obtain ⟨bf, hbf⟩ : ∃ bf, bf = w.heap.size + 1 + 1 + 1 := ⟨_, rfl⟩
  obtain ⟨b9, hb9⟩ : ∃ b9, b9 = w.heap.size + 1 + 1 := ⟨_, rfl⟩
  obtain ⟨b8, hb8⟩ : ∃ b8, b8 = w.heap.size + 1 := ⟨_, rfl⟩
  obtain ⟨mb, hmb⟩ : ∃ mb, mb = w.heap.size := ⟨_, rfl⟩
  rw [← hbf, ← hb9, ← hb8, ← hmb] at hH
  rw [← hbf, ← hb9, ← hb8, ← hmb]
  have HNE : Hid (b8 ≠ b9 ∧ bf ≠ b8 ∧ bf ≠ b9 ∧ w.heap.size ≤ b8 ∧ w.heap.size ≤ b9) := Lib.hid (by omega)
  obtain ⟨hO, KF, K9, K8, hKm, -⟩ := id hH
  have HK := Lib.hid (And.intro hO (And.intro KF (And.intro K9 K8)))
  obtain ⟨km, qm, zm⟩ := of_block hKm
  clear hbf hb9 hb8 hmb hH hO KF K9 K8 hKm
  go_upto_region 3 with (fail)
  obtain ⟨hO, KF, K9, K8⟩ := HK.out
  clear km qm zm hO
  refine wp_region_staged (S := TwoS 2 3 b8 (.cells #[Value.int .i64 0, .int .u64 0, .bool false, .bool false, .bool false, .bool false, .bool false, .bool false] 65) b9 (.cells #[Value.int .i64 2, .int .i64 4, .int .i64 (-1), .int .u64 (ipa : Nat), .bool sto] 67) X1.drew) 5 (by kernel_rfl) (by kernel_rfl) (by kernel_rfl) (by decide) (two_start _) ?_
  apply walkedS_cons
  · intro l9 wS hz hn hS
    have hS9 := two_other 0 (by decide) (by decide) hS
    clear hS
    go_wp2
    exact ⟨rfl, rfl, hS9⟩
  · rfl
  (try simp only [Act.put, List.setIfInBounds_toArray, List.set_cons_succ, List.set_cons_zero])
  apply walkedS_cons
  · intro l9 wS hz hn hS
    have hS9 := two_other 1 (by decide) (by decide) hS
    have c9 := two_cell hS HNE.out.2.1 HNE.out.2.2.1 KF
    clear hS
    go_wp2
    exact ⟨rfl, rfl, hS9⟩
  · rfl
  (try simp only [Act.put, List.setIfInBounds_toArray, List.set_cons_succ, List.set_cons_zero])
  apply walkedS_cons
  · intro l9 wS hz hn hS
    have hb9 := two_first hn hS HNE.out.1 K8
    have hd9 := two_done1 hz (by decide) (by decide) hn HNE.out.1 hS
    refine wpList_store_whole rfl 65 _ _ rfl b8 [Value.int .i64 0, .int .u64 0, .bool false, .bool false, .bool false, .bool false, .bool false, .bool false] rfl rfl 65 _ hb9 (by kernel_rfl) rfl (by intro v hv; simp only [List.mem_cons, List.not_mem_nil, or_false] at hv; rcases hv with rfl | rfl | rfl | rfl | rfl | rfl | rfl | rfl <;> rfl) ?_
    exact ⟨rfl, rfl, hd9⟩
  · rfl
  (try simp only [Act.put, List.setIfInBounds_toArray, List.set_cons_succ, List.set_cons_zero])
  apply walkedS_cons
  · intro l9 wS hz hn hS
    have hb9 := two_second hn hS HNE.out.1 K9
    have hd9 := two_done2 hz (by decide) (by decide) hn hS
    refine wpList_store_whole rfl 67 _ _ rfl b9 [Value.int .i64 2, .int .i64 4, .int .i64 (-1), .int .u64 (ipa : Nat), .bool sto] rfl rfl 67 _ hb9 (by kernel_rfl) rfl (by intro v hv; simp only [List.mem_cons, List.not_mem_nil, or_false] at hv; rcases hv with rfl | rfl | rfl | rfl | rfl <;> rfl) ?_
    exact ⟨rfl, rfl, hd9⟩
  · rfl
  (try simp only [Act.put, List.setIfInBounds_toArray, List.set_cons_succ, List.set_cons_zero])
  apply walkedS_cons
  · intro l9 wS hz hn hS
    have hS9 := two_other 4 (by decide) (by decide) hS
    clear hS
    go_wp2
    exact ⟨rfl, rfl, hS9⟩
  · rfl
  (try simp only [Act.put, List.setIfInBounds_toArray, List.set_cons_succ, List.set_cons_zero])
  apply walkedS_nil
  intro l9 wS hz hall hS
  obtain rfl := two_all (hall 2 (by decide)) (hall 3 (by decide)) hS
  clear hS hall hz l9
  show wpList _ _ _ [] _ _
  go_wp2
  have r8 : (putB (putB X1.drew b8 (.cells #[Value.int .i64 0, .int .u64 0, .bool false, .bool false, .bool false, .bool false, .bool false, .bool false] 65)) b9 (.cells #[Value.int .i64 2, .int .i64 4, .int .i64 (-1), .int .u64 (ipa : Nat), .bool sto] 67)).heap[b8]? = some (.cells #[Value.int .i64 0, .int .u64 0, .bool false, .bool false, .bool false, .bool false, .bool false, .bool false] 65) := by rw [putB_other _ (Ne.symm HNE.out.1)]; exact putB_same _ (lt_of_block (show X1.drew.heap[b8]? = _ from K8))
  have r9 : (putB (putB X1.drew b8 (.cells #[Value.int .i64 0, .int .u64 0, .bool false, .bool false, .bool false, .bool false, .bool false, .bool false] 65)) b9 (.cells #[Value.int .i64 2, .int .i64 4, .int .i64 (-1), .int .u64 (ipa : Nat), .bool sto] 67)).heap[b9]? = some (.cells #[Value.int .i64 2, .int .i64 4, .int .i64 (-1), .int .u64 (ipa : Nat), .bool sto] 67) := putB_same _ (by rw [putB_size]; exact lt_of_block (show X1.drew.heap[b9]? = _ from K9))
  obtain ⟨k8, -, -⟩ := of_block r8
  obtain ⟨k9, -, -⟩ := of_block r9
  refine bodyPost_ret (by simp [results, Try.results33, go_sem, k8, k9]; try rfl) rfl ?_
  exact ⟨rfl, old_putB2 (old_drew HK.out.1) HNE.out.2.2.2.1 HNE.out.2.2.2.2⟩
/-- Two new blocks that are stored into. -/
theorem pair_new (y : World) (a b O F : Array Value) (s t : TypeId) : ∃ Y, Y = putB (putB ((y.alloc (.cells a s)).alloc (.cells b t)) y.heap.size (.cells O s)) (y.heap.size + 1) (.cells F t) ∧ Old y Y ∧ Y.heap[y.heap.size]? = some (.cells O s) ∧ Y.heap[y.heap.size + 1]? = some (.cells F t) ∧ Y.heap.size = y.heap.size + 2 ∧
    ((y.alloc (.cells a s)).alloc (.cells b t)).heap[y.heap.size]? = some (.cells a s) ∧ (putB ((y.alloc (.cells a s)).alloc (.cells b t)) y.heap.size (.cells O s)).heap[y.heap.size + 1]? = some (.cells b t) := by
  have h1 := keep_old (old_alloc (old_refl (y.alloc (.cells a s))) (.cells b t)) (new_block y (.cells a s))
  have h2 := new_block (y.alloc (.cells a s)) (.cells b t)
  rw [World.size_alloc] at h2
  have h3 := (putB_other (.cells O s) (show y.heap.size ≠ y.heap.size + 1 by omega)).trans h2
  refine ⟨_, rfl, old_putB2 (old_alloc (old_alloc (old_refl y) _) _) (Nat.le_refl _) (Nat.le_succ _), ?_, putB_same _ (lt_of_block h3), ?_, h1, h3⟩
  · exact (putB_other _ (show y.heap.size + 1 ≠ y.heap.size by omega)).trans (putB_same _ (lt_of_block h1))
  · rw [putB_size, putB_size, World.size_alloc, World.size_alloc]
set_option maxHeartbeats 8000000 in
set_option maxRecDepth 100000 in
theorem walkM_nil (w : World) :
    Calls Try.prog 30 #[.pointer none, .agg #[.int .u64 0, .bool false, .int .u64 0], .int .u64 0, .int .i64 1] w (RetB w (.tuple #[.agg O0.cells, .agg (⟨2, 4, -1, 0, false⟩ : F5).cells, .int .i64 0])) := by
  have hc : ∀ y, Calls Try.prog 33 #[.pointer none, .int .u64 0, .int .u64 0, .int .i64 1] y (RetB y (.tuple #[.agg #[Value.int .i64 0, .int .u64 0, .bool false, .bool false, .bool false, .bool false, .bool false, .bool false], .agg #[Value.int .i64 2, .int .i64 4, .int .i64 (-1), .int .u64 0, .bool false], .int .i64 0])) := fun y => second_nil 0 0 1 y
  have hH := holds_new #[Value.int .i64 1, .int .i64 3, .int .i64 (-1), .int .u64 0, .bool false] 67 (holds_new #[Value.int .i64 0, .int .i64 0, .int .i64 0, .int .u64 0, .bool false] 67 (holds_new #[Value.int .i64 0, .int .u64 0, .bool false, .bool false, .bool false, .bool false, .bool false, .bool false] 65 (holds_new #[.int .u64 0, .bool false, .int .u64 0] 71 (holds_nil w))))
  simp only [World.size_alloc] at hH
  obtain ⟨hO, KF, K9, K8, KV, -⟩ := id hH
  have HK := Lib.hid (And.intro hO (And.intro K8 K9))
  obtain ⟨kv, qv, zv⟩ := of_block KV
  clear hH hO KF K9 K8 KV
  show Calls _ _ _ _ (RetB w (.tuple #[.agg #[Value.int .i64 0, .int .u64 0, .bool false, .bool false, .bool false, .bool false, .bool false, .bool false], .agg #[Value.int .i64 2, .int .i64 4, .int .i64 (-1), .int .u64 0, .bool false], .int .i64 0]))
  go_enter Try.func30, Try.ntmps30
  go_upto_region 6 with (fail)
  generalize ((((w.alloc (.cells #[.int .u64 0, .bool false, .int .u64 0] 71)).alloc (.cells #[Value.int .i64 0, .int .u64 0, .bool false, .bool false, .bool false, .bool false, .bool false, .bool false] 65)).alloc (.cells #[Value.int .i64 0, .int .i64 0, .int .i64 0, .int .u64 0, .bool false] 67)).alloc (.cells #[Value.int .i64 1, .int .i64 3, .int .i64 (-1), .int .u64 0, .bool false] 67)) = X1 at *
  obtain ⟨b9, hb9⟩ : ∃ b9, b9 = w.heap.size + 1 + 1 := ⟨_, rfl⟩
  obtain ⟨b8, hb8⟩ : ∃ b8, b8 = w.heap.size + 1 := ⟨_, rfl⟩
  rw [← hb9, ← hb8] at HK
  rw [← hb9, ← hb8]
  have HNE : Hid (b8 ≠ b9 ∧ w.heap.size ≤ b8 ∧ w.heap.size ≤ b9) := Lib.hid (by omega)
  clear hb9 hb8
  go_wp2_with fail
  (with_reducible refine (hc _).mono ?_)
  rintro e x2 ⟨rfl, hO2⟩
  have K8 := keep_old hO2 HK.out.2.1
  have K9 := keep_old hO2 HK.out.2.2
  have K9' := (putB_other (.cells #[Value.int .i64 0, .int .u64 0, .bool false, .bool false, .bool false, .bool false, .bool false, .bool false] 65) HNE.out.1).trans K9
  have HW2 := Lib.hid (And.intro K8 (And.intro K9' (old_then HK.out.1 hO2)))
  clear hc hO2 K8 K9 K9' kv qv zv
  go_wp2_with (first | (refine wpList_store_whole rfl 65 _ _ rfl b8 [Value.int .i64 0, .int .u64 0, .bool false, .bool false, .bool false, .bool false, .bool false, .bool false] rfl rfl 65 _ HW2.out.1 (by kernel_rfl) rfl (by intro v hv; simp only [List.mem_cons, List.not_mem_nil, or_false] at hv; rcases hv with rfl | rfl | rfl | rfl | rfl | rfl | rfl | rfl <;> rfl) ?_) | (refine wpList_store_whole rfl 67 _ _ rfl b9 [Value.int .i64 2, .int .i64 4, .int .i64 (-1), .int .u64 0, .bool false] rfl rfl 67 _ HW2.out.2.1 (by kernel_rfl) rfl (by intro v hv; simp only [List.mem_cons, List.not_mem_nil, or_false] at hv; rcases hv with rfl | rfl | rfl | rfl | rfl <;> rfl) ?_))
  have r8 := (putB_other (.cells #[Value.int .i64 2, .int .i64 4, .int .i64 (-1), .int .u64 0, .bool false] 67) (Ne.symm HNE.out.1)).trans (putB_same (.cells #[Value.int .i64 0, .int .u64 0, .bool false, .bool false, .bool false, .bool false, .bool false, .bool false] 65) (lt_of_block HW2.out.1))
  have r9 := putB_same (.cells #[Value.int .i64 2, .int .i64 4, .int .i64 (-1), .int .u64 0, .bool false] 67) (lt_of_block HW2.out.2.1)
  obtain ⟨k8, -, -⟩ := of_block r8
  obtain ⟨k9, -, -⟩ := of_block r9
  refine bodyPost_ret (by simp [results, Try.results30, go_sem, k8, k9]; try rfl) rfl ?_
  exact ⟨rfl, old_putB2 HW2.out.2.2 HNE.out.2.1 HNE.out.2.2⟩
end Go.Proofs.Ytlbehhbicmmdoaa
namespace Go.Proofs.Ytlbehhbicmmdoaa
set_option linter.unusedVariables false
set_option linter.unusedSimpArgs false
open Go.RowKit
set_option maxRecDepth 100000 in
theorem told_w1 : nestN (rawM 40 (wdC 16)) (okM 40) 4096 false 0 20488 1 = (⟨12, 5, true, true, true, true, true, false⟩, F0, 4) := by kernel_rfl
set_option maxRecDepth 100000 in
theorem told_w2 : ∃ (oip : Nat) (o1 o2 o3 o4 o5 o6 : Bool), nestN (rawM 40 (wdC 16)) (okM 40) 4096 true 0 4104 1 = (⟨12, oip, o1, o2, o3, o4, o5, o6⟩, F0, 24) := by
  refine ⟨(nestN (rawM 40 (wdC 16)) (okM 40) 4096 true 0 4104 1).1.ip, (nestN (rawM 40 (wdC 16)) (okM 40) 4096 true 0 4104 1).1.r1, (nestN (rawM 40 (wdC 16)) (okM 40) 4096 true 0 4104 1).1.w1, (nestN (rawM 40 (wdC 16)) (okM 40) 4096 true 0 4104 1).1.x1, (nestN (rawM 40 (wdC 16)) (okM 40) 4096 true 0 4104 1).1.r2, (nestN (rawM 40 (wdC 16)) (okM 40) 4096 true 0 4104 1).1.w2, (nestN (rawM 40 (wdC 16)) (okM 40) 4096 true 0 4104 1).1.x2, ?_⟩
  kernel_rfl
set_option maxHeartbeats 16000000 in
set_option maxRecDepth 100000 in
theorem told14_calls (w : World) : Calls Try.prog 32 #[] w (RetB w (.bool true)) := by
  have hw : Calls Try.prog 29 #[.slice none 0 0] w (RetWorld w []) := world14_calls w none [] 0 (by decide) (fun i e h => by simp at h)
  have hn : ∀ y, Calls Try.prog 30 #[.pointer none, .agg #[.int .u64 0, .bool false, .int .u64 0], .int .u64 0, .int .i64 1] y (RetB y (.tuple #[.agg #[Value.int .i64 0, .int .u64 0, .bool false, .bool false, .bool false, .bool false, .bool false, .bool false], .agg #[Value.int .i64 2, .int .i64 4, .int .i64 (-1), .int .u64 0, .bool false], .int .i64 0])) := walkM_nil
  have hfr : ∀ y, Calls Try.prog 40 #[.int .i64 5] y (RetB y (.int .i64 12)) := fun y => frame14_calls 5 (by decide) y
  have he0 : ∀ y, (Op.equalIn 10000 67 (.agg #[Value.int .i64 0, .int .i64 0, .int .i64 0, .int .u64 0, .bool false]) (.agg #[Value.int .i64 0, .int .i64 0, .int .i64 0, .int .u64 0, .bool false])).run Try.prog y = .ok true y := fun y => eq_fau_self F0 y
  have he1 : ∀ y, (Op.equalIn 10000 67 (.agg #[Value.int .i64 2, .int .i64 2, .int .i64 (-1), .int .u64 16384, .bool true]) (.agg #[Value.int .i64 2, .int .i64 2, .int .i64 (-1), .int .u64 16384, .bool true])).run Try.prog y = .ok true y := fun y => eq_fau_self ⟨2, 2, -1, 16384, true⟩ y
  obtain ⟨oip, o1, o2, o3, o4, o5, o6, hv2⟩ := told_w2
  have HN := Lib.hid hn
  have HFR := Lib.hid hfr
  have HEQ := Lib.hid (And.intro he0 he1)
  have HV2 := Lib.hid hv2
  clear hn hfr he0 he1 hv2
  go_enter Try.func32, Try.ntmps32
  go_wp2_with fail
  (with_reducible refine hw.mono ?_)
  rintro e x1 ⟨p, mb, wd, rfl, hS, hwd⟩
  obtain rfl := hwd rfl
  have hm0 : MemS w p (wdC 16) 100 (fun _ => False) x1 := memS_of hS
  have hc : Calls Try.prog 30 #[.pointer (some ⟨p, 0, none⟩), .agg #[.int .u64 4096, .bool false, .int .u64 0], .int .u64 20488, .int .i64 1] x1 (RetW w p (wdC 16) 124 (fun _ => False) x1 (⟨12, 5, true, true, true, true, true, false⟩, F0, 4)) := by
    have h := memS_walk hm0 (by decide) 4096 0 20488 false (by decide) (by decide) (by decide) 1
    rw [told_w1] at h
    exact h
  clear hw hS hwd hm0
  go_wp2_with fail
  (with_reducible refine hc.mono ?_)
  rintro e y1 ⟨rfl, hm, -, -⟩
  have HM1 := Lib.hid hm
  clear hc hm
  dsimp only [O8.cells, F5.cells, F0]
  obtain ⟨Y1, hY1, hOY1, hob1, hfb1, hsY1, i1, i2⟩ := pair_new y1 #[Value.int .i64 0, .int .u64 0, .bool false, .bool false, .bool false, .bool false, .bool false, .bool false] #[Value.int .i64 0, .int .i64 0, .int .i64 0, .int .u64 0, .bool false] #[Value.int .i64 12, .int .u64 5, .bool true, .bool true, .bool true, .bool true, .bool true, .bool false] #[Value.int .i64 0, .int .i64 0, .int .i64 0, .int .u64 0, .bool false] 65 67
  have HY1 := Lib.hid (And.intro hOY1 (And.intro hob1 (And.intro hfb1 hsY1)))
  have HEY1 := Lib.hid hY1
  have I1Y1 := Lib.hid i1
  have I2Y1 := Lib.hid i2
  clear hY1 hOY1 hob1 hfb1 hsY1 i1 i2
  go_upto_region 5 with (first | (refine wpList_store_whole rfl 65 _ _ rfl y1.heap.size [Value.int .i64 12, .int .u64 5, .bool true, .bool true, .bool true, .bool true, .bool true, .bool false] rfl rfl 65 _ I1Y1.out (by kernel_rfl) rfl (by intro v hv; simp only [List.mem_cons, List.not_mem_nil, or_false] at hv; rcases hv with rfl | rfl | rfl | rfl | rfl | rfl | rfl | rfl <;> rfl) ?_) | (refine wpList_store_whole rfl 67 _ _ rfl (y1.heap.size + 1) [Value.int .i64 0, .int .i64 0, .int .i64 0, .int .u64 0, .bool false] rfl rfl 67 _ I2Y1.out (by kernel_rfl) rfl (by intro v hv; simp only [List.mem_cons, List.not_mem_nil, or_false] at hv; rcases hv with rfl | rfl | rfl | rfl | rfl <;> rfl) ?_))
  rw [← HEY1.out]
  clear HEY1 I1Y1 I2Y1
  obtain ⟨fb1, hfb1⟩ : ∃ fb1, fb1 = y1.heap.size + 1 := ⟨_, rfl⟩
  obtain ⟨ob1, hob1⟩ : ∃ ob1, ob1 = y1.heap.size := ⟨_, rfl⟩
  rw [← hfb1, ← hob1]
  rw [← hfb1, ← hob1] at HY1
  have HBY1 := Lib.hid (And.intro hob1 hfb1)
  clear hfb1 hob1
  have hm1 : MemS w p (wdC 16) 124 (fun b => b = ob1 ∨ b = fb1) Y1 := memS_new HM1.out HY1.out.1 (fun b hb => .inr (by have := HBY1.out; omega))
  have hc : Calls Try.prog 30 #[.pointer (some ⟨p, 0, none⟩), .agg #[.int .u64 4096, .bool true, .int .u64 0], .int .u64 4104, .int .i64 1] Y1 (RetW w p (wdC 16) 148 (fun b => b = ob1 ∨ b = fb1) Y1 (⟨12, oip, o1, o2, o3, o4, o5, o6⟩, F0, 24)) := by
    have h := memS_walk hm1 (by decide) 4096 0 4104 true (by decide) (by decide) (by decide) 1
    rw [HV2.out] at h
    exact h
  clear hm1
  go_wp2_with fail
  (with_reducible refine hc.mono ?_)
  rintro e y2 ⟨rfl, hm, hk, hsz⟩
  have HM2 := Lib.hid (And.intro hm (And.intro (hk ob1 _ (.inl rfl) HY1.out.2.1) (And.intro (hk fb1 _ (.inr rfl) HY1.out.2.2.1) hsz)))
  clear hc hm hk hsz
  dsimp only [O8.cells, F5.cells, F0]
  obtain ⟨Y2, hY2, hOY2, hob2, hfb2, hsY2, i1, i2⟩ := pair_new y2 #[Value.int .i64 0, .int .u64 0, .bool false, .bool false, .bool false, .bool false, .bool false, .bool false] #[Value.int .i64 0, .int .i64 0, .int .i64 0, .int .u64 0, .bool false] #[Value.int .i64 12, .int .u64 (oip : Nat), .bool o1, .bool o2, .bool o3, .bool o4, .bool o5, .bool o6] #[Value.int .i64 0, .int .i64 0, .int .i64 0, .int .u64 0, .bool false] 65 67
  have HY2 := Lib.hid (And.intro hOY2 (And.intro hob2 (And.intro hfb2 hsY2)))
  have HEY2 := Lib.hid hY2
  have I1Y2 := Lib.hid i1
  have I2Y2 := Lib.hid i2
  clear hY2 hOY2 hob2 hfb2 hsY2 i1 i2
  go_upto_region 6 with (first | (refine wpList_store_whole rfl 65 _ _ rfl y2.heap.size [Value.int .i64 12, .int .u64 (oip : Nat), .bool o1, .bool o2, .bool o3, .bool o4, .bool o5, .bool o6] rfl rfl 65 _ I1Y2.out (by kernel_rfl) rfl (by intro v hv; simp only [List.mem_cons, List.not_mem_nil, or_false] at hv; rcases hv with rfl | rfl | rfl | rfl | rfl | rfl | rfl | rfl <;> rfl) ?_) | (refine wpList_store_whole rfl 67 _ _ rfl (y2.heap.size + 1) [Value.int .i64 0, .int .i64 0, .int .i64 0, .int .u64 0, .bool false] rfl rfl 67 _ I2Y2.out (by kernel_rfl) rfl (by intro v hv; simp only [List.mem_cons, List.not_mem_nil, or_false] at hv; rcases hv with rfl | rfl | rfl | rfl | rfl <;> rfl) ?_))
  rw [← HEY2.out]
  clear HEY2 I1Y2 I2Y2
  obtain ⟨fb2, hfb2⟩ : ∃ fb2, fb2 = y2.heap.size + 1 := ⟨_, rfl⟩
  obtain ⟨ob2, hob2⟩ : ∃ ob2, ob2 = y2.heap.size := ⟨_, rfl⟩
  rw [← hfb2, ← hob2]
  rw [← hfb2, ← hob2] at HY2
  have HBY2 := Lib.hid (And.intro hob2 hfb2)
  clear hfb2 hob2
  have hm2 : MemS w p (wdC 16) 148 (fun b => (b = ob1 ∨ b = fb1) ∨ b = ob2 ∨ b = fb2) Y2 := memS_new HM2.out.1 HY2.out.1 (fun b hb => hb.imp id (fun h => by have := HBY2.out; omega))
  have hc : Calls Try.prog 33 #[.pointer (some ⟨p, 0, none⟩), .int .u64 4096, .int .u64 16384, .int .i64 2] Y2 (RetW w p (wdC 16) 152 (fun b => (b = ob1 ∨ b = fb1) ∨ b = ob2 ∨ b = fb2) Y2 (O0, ⟨2, 2, -1, 16384, true⟩, 4)) := by
    have h := memS_second hm2 (by decide) 4096 16384 (by decide) (by decide) 2
    rw [told_v3] at h
    exact h
  have a1 := keep_old HY2.out.1 HM2.out.2.1
  have a2 := keep_old HY2.out.1 HM2.out.2.2.1
  have HA := Lib.hid (And.intro a1 a2)
  clear hm2 a1 a2
  go_wp2_with fail
  (with_reducible refine hc.mono ?_)
  rintro e y3 ⟨rfl, hm, hk, hsz⟩
  have HM3 := Lib.hid (And.intro hm (And.intro (hk ob1 _ (.inl (.inl rfl)) HA.out.1) (And.intro (hk fb1 _ (.inl (.inr rfl)) HA.out.2) (And.intro (hk ob2 _ (.inr (.inl rfl)) HY2.out.2.1) (hk fb2 _ (.inr (.inr rfl)) HY2.out.2.2.1)))))
  clear hc hm hk hsz
  dsimp only [O8.cells, F5.cells, F0, O0]
  obtain ⟨Y3, hY3, hOY3, hob3, hfb3, hsY3, i1, i2⟩ := pair_new y3 #[Value.int .i64 0, .int .u64 0, .bool false, .bool false, .bool false, .bool false, .bool false, .bool false] #[Value.int .i64 0, .int .i64 0, .int .i64 0, .int .u64 0, .bool false] #[Value.int .i64 0, .int .u64 0, .bool false, .bool false, .bool false, .bool false, .bool false, .bool false] #[Value.int .i64 2, .int .i64 2, .int .i64 (-1), .int .u64 16384, .bool true] 65 67
  have HY3 := Lib.hid (And.intro hOY3 (And.intro hob3 (And.intro hfb3 hsY3)))
  have HEY3 := Lib.hid hY3
  have I1Y3 := Lib.hid i1
  have I2Y3 := Lib.hid i2
  clear hY3 hOY3 hob3 hfb3 hsY3 i1 i2
  go_upto_region 7 with (first | (refine wpList_store_whole rfl 65 _ _ rfl y3.heap.size [Value.int .i64 0, .int .u64 0, .bool false, .bool false, .bool false, .bool false, .bool false, .bool false] rfl rfl 65 _ I1Y3.out (by kernel_rfl) rfl (by intro v hv; simp only [List.mem_cons, List.not_mem_nil, or_false] at hv; rcases hv with rfl | rfl | rfl | rfl | rfl | rfl | rfl | rfl <;> rfl) ?_) | (refine wpList_store_whole rfl 67 _ _ rfl (y3.heap.size + 1) [Value.int .i64 2, .int .i64 2, .int .i64 (-1), .int .u64 16384, .bool true] rfl rfl 67 _ I2Y3.out (by kernel_rfl) rfl (by intro v hv; simp only [List.mem_cons, List.not_mem_nil, or_false] at hv; rcases hv with rfl | rfl | rfl | rfl | rfl <;> rfl) ?_))
  rw [← HEY3.out]
  clear HEY3 I1Y3 I2Y3
  obtain ⟨fb3, hfb3⟩ : ∃ fb3, fb3 = y3.heap.size + 1 := ⟨_, rfl⟩
  obtain ⟨ob3, hob3⟩ : ∃ ob3, ob3 = y3.heap.size := ⟨_, rfl⟩
  rw [← hfb3, ← hob3]
  rw [← hfb3, ← hob3] at HY3
  have HBY3 := Lib.hid (And.intro hob3 hfb3)
  clear hfb3 hob3
  have HM4 := Lib.hid (And.intro (memS_old HM3.out.1 HY3.out.1) (And.intro (keep_old HY3.out.1 HM3.out.2.1) (And.intro (keep_old HY3.out.1 HM3.out.2.2.1) (And.intro (keep_old HY3.out.1 HM3.out.2.2.2.1) (And.intro (keep_old HY3.out.1 HM3.out.2.2.2.2) HY3.out.2.2.1)))))
  go_wp2_with fail
  (with_reducible refine (HN.out _).mono ?_)
  rintro e y4 ⟨rfl, hO4⟩
  have HO4 := Lib.hid hO4
  clear hO4
  obtain ⟨Y4, hY4, hOY4, hob4, hfb4, hsY4, i1, i2⟩ := pair_new y4 #[Value.int .i64 0, .int .u64 0, .bool false, .bool false, .bool false, .bool false, .bool false, .bool false] #[Value.int .i64 0, .int .i64 0, .int .i64 0, .int .u64 0, .bool false] #[Value.int .i64 0, .int .u64 0, .bool false, .bool false, .bool false, .bool false, .bool false, .bool false] #[Value.int .i64 2, .int .i64 4, .int .i64 (-1), .int .u64 0, .bool false] 65 67
  have HY4 := Lib.hid (And.intro hOY4 (And.intro hob4 (And.intro hfb4 hsY4)))
  have HEY4 := Lib.hid hY4
  have I1Y4 := Lib.hid i1
  have I2Y4 := Lib.hid i2
  clear hY4 hOY4 hob4 hfb4 hsY4 i1 i2
  go_upto_region 8 with (first | (refine wpList_store_whole rfl 65 _ _ rfl y4.heap.size [Value.int .i64 0, .int .u64 0, .bool false, .bool false, .bool false, .bool false, .bool false, .bool false] rfl rfl 65 _ I1Y4.out (by kernel_rfl) rfl (by intro v hv; simp only [List.mem_cons, List.not_mem_nil, or_false] at hv; rcases hv with rfl | rfl | rfl | rfl | rfl | rfl | rfl | rfl <;> rfl) ?_) | (refine wpList_store_whole rfl 67 _ _ rfl (y4.heap.size + 1) [Value.int .i64 2, .int .i64 4, .int .i64 (-1), .int .u64 0, .bool false] rfl rfl 67 _ I2Y4.out (by kernel_rfl) rfl (by intro v hv; simp only [List.mem_cons, List.not_mem_nil, or_false] at hv; rcases hv with rfl | rfl | rfl | rfl | rfl <;> rfl) ?_))
  rw [← HEY4.out]
  clear HEY4 I1Y4 I2Y4
  obtain ⟨fb4, hfb4⟩ : ∃ fb4, fb4 = y4.heap.size + 1 := ⟨_, rfl⟩
  obtain ⟨ob4, hob4⟩ : ∃ ob4, ob4 = y4.heap.size := ⟨_, rfl⟩
  rw [← hfb4, ← hob4]
  rw [← hfb4, ← hob4] at HY4
  have HBY4 := Lib.hid (And.intro hob4 hfb4)
  clear hfb4 hob4
  have hO := old_then HO4.out HY4.out.1
  have HL := Lib.hid (And.intro (keep_old hO HM4.out.2.1) (And.intro (keep_old hO HM4.out.2.2.1) (And.intro (keep_old hO HM4.out.2.2.2.1) (And.intro (keep_old hO HM4.out.2.2.2.2.1) (And.intro (keep_old hO HM4.out.2.2.2.2.2) HY4.out.2.2.1)))))
  have HOW := Lib.hid (old_then (memS_word HM4.out.1) hO)
  clear hO
  have he0 := HEQ.out.1
  have he1 := HEQ.out.2
  refine wp_region_walked (S := Old Y4) (by kernel_rfl) (by kernel_rfl) (old_drew (old_refl _)) ?_
  apply walked_cons
  · intro wS hS
    obtain ⟨k9, -, -⟩ := of_block (keep_old hS HL.out.2.1)
    have HS := Lib.hid hS
    clear hS
    go_wp2
    exact ⟨rfl, rfl, HS.out⟩
  · rfl
  (try simp only [Act.put, List.setIfInBounds_toArray, List.set_cons_succ, List.set_cons_zero])
  apply walked_cons
  · intro wS hS
    have HS := Lib.hid hS
    clear hS
    go_wp2
    exact ⟨rfl, rfl, HS.out⟩
  · rfl
  (try simp only [Act.put, List.setIfInBounds_toArray, List.set_cons_succ, List.set_cons_zero])
  apply walked_cons
  · intro wS hS
    have HS := Lib.hid hS
    clear hS
    go_wp2
    exact ⟨rfl, rfl, HS.out⟩
  · rfl
  (try simp only [Act.put, List.setIfInBounds_toArray, List.set_cons_succ, List.set_cons_zero])
  apply walked_cons
  · intro wS hS
    have HS := Lib.hid hS
    clear hS
    go_wp2
    exact ⟨rfl, rfl, HS.out⟩
  · rfl
  (try simp only [Act.put, List.setIfInBounds_toArray, List.set_cons_succ, List.set_cons_zero])
  apply walked_cons
  · intro wS hS
    have HS := Lib.hid hS
    clear hS
    go_wp2
    exact ⟨rfl, rfl, HS.out⟩
  · rfl
  (try simp only [Act.put, List.setIfInBounds_toArray, List.set_cons_succ, List.set_cons_zero])
  apply walked_cons
  · intro wS hS
    obtain ⟨k9, -, -⟩ := of_block (keep_old hS HL.out.1)
    have HS := Lib.hid hS
    clear hS
    go_wp2
    exact ⟨rfl, rfl, HS.out⟩
  · rfl
  (try simp only [Act.put, List.setIfInBounds_toArray, List.set_cons_succ, List.set_cons_zero])
  apply walked_cons
  · intro wS hS
    have HS := Lib.hid hS
    clear hS
    go_wp2_with fail
    (with_reducible refine (HFR.out _).mono ?_)
    rintro e y9 ⟨rfl, hY⟩
    have HY := Lib.hid hY
    clear hY
    go_wp2
    exact ⟨rfl, rfl, old_then HS.out HY.out⟩
  · rfl
  (try simp only [Act.put, List.setIfInBounds_toArray, List.set_cons_succ, List.set_cons_zero])
  apply walked_cons
  · intro wS hS
    have HS := Lib.hid hS
    clear hS
    go_wp2
    exact ⟨rfl, rfl, HS.out⟩
  · rfl
  (try simp only [Act.put, List.setIfInBounds_toArray, List.set_cons_succ, List.set_cons_zero])
  apply walked_cons
  · intro wS hS
    have HS := Lib.hid hS
    clear hS
    go_wp2
    exact ⟨rfl, rfl, HS.out⟩
  · rfl
  (try simp only [Act.put, List.setIfInBounds_toArray, List.set_cons_succ, List.set_cons_zero])
  apply walked_cons
  · intro wS hS
    have HS := Lib.hid hS
    clear hS
    go_wp2
    exact ⟨rfl, rfl, HS.out⟩
  · rfl
  (try simp only [Act.put, List.setIfInBounds_toArray, List.set_cons_succ, List.set_cons_zero])
  apply walked_cons
  · intro wS hS
    have HS := Lib.hid hS
    clear hS
    go_wp2
    exact ⟨rfl, rfl, HS.out⟩
  · rfl
  (try simp only [Act.put, List.setIfInBounds_toArray, List.set_cons_succ, List.set_cons_zero])
  apply walked_cons
  · intro wS hS
    obtain ⟨k9, -, -⟩ := of_block (keep_old hS HL.out.1)
    have HS := Lib.hid hS
    clear hS
    go_wp2
    exact ⟨rfl, rfl, HS.out⟩
  · rfl
  (try simp only [Act.put, List.setIfInBounds_toArray, List.set_cons_succ, List.set_cons_zero])
  apply walked_cons
  · intro wS hS
    have HS := Lib.hid hS
    clear hS
    go_wp2
    exact ⟨rfl, rfl, HS.out⟩
  · rfl
  (try simp only [Act.put, List.setIfInBounds_toArray, List.set_cons_succ, List.set_cons_zero])
  apply walked_cons
  · intro wS hS
    have HS := Lib.hid hS
    clear hS
    go_wp2
    exact ⟨rfl, rfl, HS.out⟩
  · rfl
  (try simp only [Act.put, List.setIfInBounds_toArray, List.set_cons_succ, List.set_cons_zero])
  apply walked_cons
  · intro wS hS
    have HS := Lib.hid hS
    clear hS
    go_wp2
    exact ⟨rfl, rfl, HS.out⟩
  · rfl
  (try simp only [Act.put, List.setIfInBounds_toArray, List.set_cons_succ, List.set_cons_zero])
  apply walked_cons
  · intro wS hS
    have HS := Lib.hid hS
    clear hS
    go_wp2
    exact ⟨rfl, rfl, HS.out⟩
  · rfl
  (try simp only [Act.put, List.setIfInBounds_toArray, List.set_cons_succ, List.set_cons_zero])
  apply walked_cons
  · intro wS hS
    have HS := Lib.hid hS
    clear hS
    go_wp2
    exact ⟨rfl, rfl, HS.out⟩
  · rfl
  (try simp only [Act.put, List.setIfInBounds_toArray, List.set_cons_succ, List.set_cons_zero])
  apply walked_cons
  · intro wS hS
    have HS := Lib.hid hS
    clear hS
    go_wp2
    exact ⟨rfl, rfl, HS.out⟩
  · rfl
  (try simp only [Act.put, List.setIfInBounds_toArray, List.set_cons_succ, List.set_cons_zero])
  apply walked_cons
  · intro wS hS
    have HS := Lib.hid hS
    clear hS
    go_wp2
    exact ⟨rfl, rfl, HS.out⟩
  · rfl
  (try simp only [Act.put, List.setIfInBounds_toArray, List.set_cons_succ, List.set_cons_zero])
  apply walked_cons
  · intro wS hS
    obtain ⟨k9, -, -⟩ := of_block (keep_old hS HL.out.2.2.2.1)
    have HS := Lib.hid hS
    clear hS
    go_wp2
    exact ⟨rfl, rfl, HS.out⟩
  · rfl
  (try simp only [Act.put, List.setIfInBounds_toArray, List.set_cons_succ, List.set_cons_zero])
  apply walked_cons
  · intro wS hS
    have HS := Lib.hid hS
    clear hS
    go_wp2
    exact ⟨rfl, rfl, HS.out⟩
  · rfl
  (try simp only [Act.put, List.setIfInBounds_toArray, List.set_cons_succ, List.set_cons_zero])
  apply walked_cons
  · intro wS hS
    have HS := Lib.hid hS
    clear hS
    go_wp2
    exact ⟨rfl, rfl, HS.out⟩
  · rfl
  (try simp only [Act.put, List.setIfInBounds_toArray, List.set_cons_succ, List.set_cons_zero])
  apply walked_cons
  · intro wS hS
    have HS := Lib.hid hS
    clear hS
    go_wp2
    exact ⟨rfl, rfl, HS.out⟩
  · rfl
  (try simp only [Act.put, List.setIfInBounds_toArray, List.set_cons_succ, List.set_cons_zero])
  apply walked_cons
  · intro wS hS
    have HS := Lib.hid hS
    clear hS
    go_wp2
    exact ⟨rfl, rfl, HS.out⟩
  · rfl
  (try simp only [Act.put, List.setIfInBounds_toArray, List.set_cons_succ, List.set_cons_zero])
  apply walked_cons
  · intro wS hS
    have HS := Lib.hid hS
    clear hS
    go_wp2
    exact ⟨rfl, rfl, HS.out⟩
  · rfl
  (try simp only [Act.put, List.setIfInBounds_toArray, List.set_cons_succ, List.set_cons_zero])
  apply walked_cons
  · intro wS hS
    obtain ⟨k9, -, -⟩ := of_block (keep_old hS HL.out.2.2.1)
    have HS := Lib.hid hS
    clear hS
    go_wp2
    exact ⟨rfl, rfl, HS.out⟩
  · rfl
  (try simp only [Act.put, List.setIfInBounds_toArray, List.set_cons_succ, List.set_cons_zero])
  apply walked_cons
  · intro wS hS
    have HS := Lib.hid hS
    clear hS
    go_wp2_with fail
    (with_reducible refine (HFR.out _).mono ?_)
    rintro e y9 ⟨rfl, hY⟩
    have HY := Lib.hid hY
    clear hY
    go_wp2
    exact ⟨rfl, rfl, old_then HS.out HY.out⟩
  · rfl
  (try simp only [Act.put, List.setIfInBounds_toArray, List.set_cons_succ, List.set_cons_zero])
  apply walked_cons
  · intro wS hS
    have HS := Lib.hid hS
    clear hS
    go_wp2
    exact ⟨rfl, rfl, HS.out⟩
  · rfl
  (try simp only [Act.put, List.setIfInBounds_toArray, List.set_cons_succ, List.set_cons_zero])
  apply walked_cons
  · intro wS hS
    have HS := Lib.hid hS
    clear hS
    go_wp2
    exact ⟨rfl, rfl, HS.out⟩
  · rfl
  (try simp only [Act.put, List.setIfInBounds_toArray, List.set_cons_succ, List.set_cons_zero])
  apply walked_cons
  · intro wS hS
    have HS := Lib.hid hS
    clear hS
    go_wp2
    exact ⟨rfl, rfl, HS.out⟩
  · rfl
  (try simp only [Act.put, List.setIfInBounds_toArray, List.set_cons_succ, List.set_cons_zero])
  apply walked_cons
  · intro wS hS
    have HS := Lib.hid hS
    clear hS
    go_wp2
    exact ⟨rfl, rfl, HS.out⟩
  · rfl
  (try simp only [Act.put, List.setIfInBounds_toArray, List.set_cons_succ, List.set_cons_zero])
  apply walked_cons
  · intro wS hS
    have HS := Lib.hid hS
    clear hS
    go_wp2
    exact ⟨rfl, rfl, HS.out⟩
  · rfl
  (try simp only [Act.put, List.setIfInBounds_toArray, List.set_cons_succ, List.set_cons_zero])
  apply walked_cons
  · intro wS hS
    have HS := Lib.hid hS
    clear hS
    go_wp2
    exact ⟨rfl, rfl, HS.out⟩
  · rfl
  (try simp only [Act.put, List.setIfInBounds_toArray, List.set_cons_succ, List.set_cons_zero])
  apply walked_cons
  · intro wS hS
    have HS := Lib.hid hS
    clear hS
    go_wp2
    exact ⟨rfl, rfl, HS.out⟩
  · rfl
  (try simp only [Act.put, List.setIfInBounds_toArray, List.set_cons_succ, List.set_cons_zero])
  apply walked_cons
  · intro wS hS
    obtain ⟨k9, -, -⟩ := of_block (keep_old hS HL.out.2.2.2.2.1)
    have HS := Lib.hid hS
    clear hS
    go_wp2
    exact ⟨rfl, rfl, HS.out⟩
  · rfl
  (try simp only [Act.put, List.setIfInBounds_toArray, List.set_cons_succ, List.set_cons_zero])
  apply walked_cons
  · intro wS hS
    have HS := Lib.hid hS
    clear hS
    go_wp2
    exact ⟨rfl, rfl, HS.out⟩
  · rfl
  (try simp only [Act.put, List.setIfInBounds_toArray, List.set_cons_succ, List.set_cons_zero])
  apply walked_cons
  · intro wS hS
    have HS := Lib.hid hS
    clear hS
    go_wp2
    exact ⟨rfl, rfl, HS.out⟩
  · rfl
  (try simp only [Act.put, List.setIfInBounds_toArray, List.set_cons_succ, List.set_cons_zero])
  apply walked_cons
  · intro wS hS
    have HS := Lib.hid hS
    clear hS
    go_wp2
    exact ⟨rfl, rfl, HS.out⟩
  · rfl
  (try simp only [Act.put, List.setIfInBounds_toArray, List.set_cons_succ, List.set_cons_zero])
  apply walked_cons
  · intro wS hS
    have HS := Lib.hid hS
    clear hS
    go_wp2
    exact ⟨rfl, rfl, HS.out⟩
  · rfl
  (try simp only [Act.put, List.setIfInBounds_toArray, List.set_cons_succ, List.set_cons_zero])
  apply walked_cons
  · intro wS hS
    have HS := Lib.hid hS
    clear hS
    go_wp2
    exact ⟨rfl, rfl, HS.out⟩
  · rfl
  (try simp only [Act.put, List.setIfInBounds_toArray, List.set_cons_succ, List.set_cons_zero])
  apply walked_cons
  · intro wS hS
    obtain ⟨k9, -, -⟩ := of_block (keep_old hS HL.out.2.2.2.2.2)
    have HS := Lib.hid hS
    clear hS
    go_wp2
    exact ⟨rfl, rfl, HS.out⟩
  · rfl
  (try simp only [Act.put, List.setIfInBounds_toArray, List.set_cons_succ, List.set_cons_zero])
  apply walked_cons
  · intro wS hS
    have HS := Lib.hid hS
    clear hS
    go_wp2
    exact ⟨rfl, rfl, HS.out⟩
  · rfl
  (try simp only [Act.put, List.setIfInBounds_toArray, List.set_cons_succ, List.set_cons_zero])
  apply walked_cons
  · intro wS hS
    have HS := Lib.hid hS
    clear hS
    go_wp2
    exact ⟨rfl, rfl, HS.out⟩
  · rfl
  (try simp only [Act.put, List.setIfInBounds_toArray, List.set_cons_succ, List.set_cons_zero])
  apply walked_cons
  · intro wS hS
    have HS := Lib.hid hS
    clear hS
    go_wp2
    exact ⟨rfl, rfl, HS.out⟩
  · rfl
  (try simp only [Act.put, List.setIfInBounds_toArray, List.set_cons_succ, List.set_cons_zero])
  apply walked_nil
  intro wS hS
  have HS := Lib.hid hS
  clear hS
  go_wp2
  go_ret
  exact ⟨rfl, old_then HOW.out HS.out⟩
end Go.Proofs.Ytlbehhbicmmdoaa
namespace Go.Proofs.Ytlbehhbicmmdoaa
set_option linter.unusedVariables false
set_option linter.unusedSimpArgs false
open Go.RowKit
section
variable {X : Nat → Prop} {p frames ops : Nat} {pg : Int → Option (List Nat)} {w : World}
theorem get_page2 (h : IsMem w X p frames pg ops) (k : Int) (hk : hasB frames k = true) : Calls Try.prog 39 #[.pointer (some ⟨p, 0, none⟩), .int .i64 k] w
    (fun e w' => ∃ g c, e = .returned (.tuple #[.slice (some ⟨g, 0, none⟩) 4096 c, .int .i64 0]) ∧ Row w' w.heap.size g c (pageOf pg k) ∧ Old w w') := by
  have hh := has_calls h k
  rw [hk] at hh
  have H := Lib.hid h
  have hl := pageOf_length h k
  have HL := Lib.hid hl
  clear h hk hl
  go_enter Try.func39, Try.ntmps39
  go_wp2_with fail
  (with_reducible refine hh.mono ?_)
  rintro e w1 ⟨rfl, hb1⟩
  have hpg := page_calls (mem_old H.out hb1) k
  have HO := Lib.hid hb1
  clear hh hb1
  go_wp2_with fail
  (with_reducible refine hpg.mono ?_)
  rintro e w2 ⟨g, c, rfl, hrow, hO2⟩
  have hcl := clone_calls ⟨g, 0, none⟩ (pageOf pg k) c w2 (row_bytes hrow) (by rw [HL.out]; decide) (by rw [HL.out]; decide)
  rw [HL.out] at hcl
  have HO2 := Lib.hid (old_then HO.out hO2)
  clear hpg hrow hO2
  go_wp2_with fail
  (with_reducible refine hcl.mono ?_)
  rintro e w3 ⟨g2, c2, rfl, hrow2, hO3⟩
  have HF := Lib.hid (And.intro hrow2 (old_then HO2.out hO3))
  clear hcl hrow2 hO3
  go_wp2
  go_ret2
  refine ⟨_, _, rfl, ?_, HF.out.2⟩
  have hsz := HO2.out.size
  refine ⟨⟨HF.out.1.1.1, ?_⟩, HF.out.1.2⟩
  rcases HF.out.1.1.2 with h' | ⟨g', cap', cur, h', hb, rest⟩
  · exact .inl h'
  · exact .inr ⟨g', cap', cur, h', by omega, rest⟩
set_option maxHeartbeats 1000000 in
theorem set_ok2 (h : IsMem w X p frames pg ops) (hX : ∀ b, X b → b < w.heap.size) (k : Int) (a : Addr) (c : Nat) (l : List Nat) (hk : hasB frames k = true) (hB : Bytes w (some a) c l) (hl : l.length = 4096) :
    Calls Try.prog 41 #[.pointer (some ⟨p, 0, none⟩), .int .i64 k, .slice (some a) 4096 c] w (RetMem w X p frames (.int .i64 0) (updP pg k (some l)) ops) := by
  have hh := has_calls h k
  rw [hk] at hh
  have H := Lib.hid h
  have HB := Lib.hid hB
  have HL := Lib.hid hl
  clear h hk hB hl
  go_enter Try.func41, Try.ntmps41
  go_wp2_with fail
  (with_reducible refine hh.mono ?_)
  rintro e w1 ⟨rfl, hb1⟩
  have hO0 := old_drew hb1
  have hm1 := mem_old H.out hO0
  obtain ⟨g, cap, w2, hrow, hO2, hcl⟩ := clone_fix a l c w1.drew (bytes_old HB.out hO0) (by rw [HL.out]; decide) (by rw [HL.out]; decide)
  rw [HL.out] at hcl
  have hm2 := mem_old hm1 hO2
  have hge := (row_parts hrow).1
  have hsz : w.heap.size ≤ w1.drew.heap.size := hO0.size
  obtain ⟨m, f, n, k1, k2, k3, k4, k5, k6, k7, k8⟩ := id hm1
  have cA : w1.drew.cell? ⟨p, 1, none⟩ = some (.map (some m)) := by rw [cell_of k1]; rfl
  have cB : w2.cell? ⟨p, 1, none⟩ = some (.map (some m)) := by rw [cell_of (keep_old hO2 k1)]; rfl
  have hmsz := isMap_lt k3
  have hpsz := lt_of_block k1
  have hgm : ∀ m2, w2.cell? ⟨p, 1, none⟩ = some (.map (some m2)) → g ≠ m2 := by
    intro m2 hm2
    rw [cB] at hm2
    have : m = m2 := by simpa using hm2
    omega
  obtain ⟨m', c1', w3, hput, hm3, hO3⟩ := mem_page hm2 k l _ g cap hrow HL.out (fun f => by have := hX _ f; omega) (by omega) hgm
  have hmm : m = m' := by rw [cB] at c1'; simpa using c1'
  subst hmm
  have HF := Lib.hid (And.intro hm3 (((Only.of_below (old_then hO0 hO2)).mono fun b _ f => f.elim).trans hO3 : Only (fun b => ¬ X b) w w3))
  clear k1 k2 k3 k4 k5 k6 k7 k8 hm1 hO0 hmsz hpsz hh hm2 hge hsz c1' hm3 hO3 hrow hO2 hgm
  go_wp2_with fail
  refine wp_region_staged (S := StageS 6 w1.drew w2) 7 (by kernel_rfl) (by kernel_rfl) (by kernel_rfl) (by decide) rfl ?_
  (apply walkedS_cons; (focus (intro l9 wS hz hn hS; have hS9 := stage_other 0 (by decide) hS; have c9 := stage_cell hS cA cB; clear hS; go_wp2; exact ⟨rfl, rfl, hS9⟩)); rfl; (try simp only [Act.put, List.setIfInBounds_toArray, List.set_cons_succ, List.set_cons_zero]))
  (apply walkedS_cons; (focus (intro l9 wS hz hn hS; have hS9 := stage_other 1 (by decide) hS; have c9 := stage_cell hS cA cB; clear hS; go_wp2; exact ⟨rfl, rfl, hS9⟩)); rfl; (try simp only [Act.put, List.setIfInBounds_toArray, List.set_cons_succ, List.set_cons_zero]))
  (apply walkedS_cons; (focus (intro l9 wS hz hn hS; have hS9 := stage_other 2 (by decide) hS; have c9 := stage_cell hS cA cB; clear hS; go_wp2; exact ⟨rfl, rfl, hS9⟩)); rfl; (try simp only [Act.put, List.setIfInBounds_toArray, List.set_cons_succ, List.set_cons_zero]))
  (apply walkedS_cons; (focus (intro l9 wS hz hn hS; have hS9 := stage_other 3 (by decide) hS; have c9 := stage_cell hS cA cB; clear hS; go_wp2; exact ⟨rfl, rfl, hS9⟩)); rfl; (try simp only [Act.put, List.setIfInBounds_toArray, List.set_cons_succ, List.set_cons_zero]))
  (apply walkedS_cons; (focus (intro l9 wS hz hn hS; have hS9 := stage_other 4 (by decide) hS; have c9 := stage_cell hS cA cB; clear hS; go_wp2; exact ⟨rfl, rfl, hS9⟩)); rfl; (try simp only [Act.put, List.setIfInBounds_toArray, List.set_cons_succ, List.set_cons_zero]))
  (apply walkedS_cons; (focus (intro l9 wS hz hn hS; have hS9 := stage_other 5 (by decide) hS; have c9 := stage_cell hS cA cB; clear hS; go_wp2; exact ⟨rfl, rfl, hS9⟩)); rfl; (try simp only [Act.put, List.setIfInBounds_toArray, List.set_cons_succ, List.set_cons_zero]))
  apply walkedS_cons
  · intro l9 wS hz hn hS
    obtain rfl := stage_before hn hS
    clear hS
    go_wp2_with (go_at_call 67; refine hcl.mono ?_; rintro e w9 ⟨rfl, rfl⟩)
    exact ⟨rfl, rfl, stage_done hz (by decide)⟩
  · rfl
  apply walkedS_nil
  intro l9 wS hz hall hS
  obtain rfl := stage_after (hall 6 (by decide)) hS
  clear hS
  show wpList _ _ _ [_] _ _
  go_wp2
  go_ret
  exact ⟨rfl, HF.out.1, HF.out.2⟩
theorem zero_ok2 (h : IsMem w X p frames pg ops) (k : Int) (hk : hasB frames k = true) : Calls Try.prog 42 #[.pointer (some ⟨p, 0, none⟩), .int .i64 k] w (RetMem w X p frames (.int .i64 0) (updP pg k none) ops) := by
  have hh := has_calls h k
  rw [hk] at hh
  have H := Lib.hid h
  clear h hk
  go_enter Try.func42, Try.ntmps42
  go_wp2_with fail
  (with_reducible refine hh.mono ?_)
  rintro e w1 ⟨rfl, hb1⟩
  obtain ⟨m, c1, w2, hdel, hm2, hO2⟩ := mem_zero (mem_old H.out hb1) k
  have HF := Lib.hid (And.intro hm2 (((Only.of_below hb1).mono fun b _ f => f.elim).trans hO2 : Only (fun b => ¬ X b) w w2))
  clear hm2 hO2 hb1 hh
  go_wp2
  go_ret
  exact ⟨rfl, HF.out.1, HF.out.2⟩
end
end Go.Proofs.Ytlbehhbicmmdoaa
