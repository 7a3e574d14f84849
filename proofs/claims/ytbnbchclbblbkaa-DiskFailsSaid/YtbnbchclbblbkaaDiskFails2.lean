/- The statement DiskFails: its walk. -/
import Derived.Test.YtbnbchclbblbkaaDiskFails
namespace Go.Proofs.Ytbnbchclbblbkaa
set_option linter.unusedVariables false
set_option linter.unusedSimpArgs false
open Go.RowKit

theorem pg3_cnt : cntOf (pgOne zeros4096) 3 = 1 := by
  show 0 + (if (pgOne zeros4096 (0 : Nat)).isSome then 1 else 0) + (if (pgOne zeros4096 (1 : Nat)).isSome then 1 else 0) + (if (pgOne zeros4096 (2 : Nat)).isSome then 1 else 0) = 1
  unfold pgOne updP
  rfl

set_option maxHeartbeats 8000000 in
set_option maxRecDepth 100000 in
theorem diskFails_calls (ad : Option Addr) (fs : List Bool) (c : Nat) (ad2 : Option Addr) (l : List Int) (c2 : Nat) (w : World) (hB : Bools w ad c fs) (hI : Ints w ad2 c2 l) :
    Calls Try.prog 13 #[.slice ad fs.length c, .slice ad2 l.length c2] w (RetB w (.bool true)) := by
  have hl63 : l.length ≤ 9223372036854775807 := Nat.le_trans hI.1 hI.2.1
  have hf63 : fs.length ≤ 9223372036854775807 := Nat.le_trans hB.1 hB.2.1
  have ht : Calls Try.prog 33 #[.int .i64 3] w fun e w' =>
    e = .returned (.tuple #[.pointer (some ⟨w.heap.size + 1, 0, none⟩), .int .i64 0]) ∧ Old w w' ∧ w'.heap.size = w.heap.size + 2 ∧ ∀ X : Nat → Prop, (∀ b, X b → b < w.heap.size) → IsDisk w' X (w.heap.size + 1) 3 (fun _ => none) [] := diskNew_calls 3 w (by decide)
  go_enter Try.func13, Try.ntmps13
  go_wp2_with fail
  (with_reducible refine ht.mono ?_)
  rintro e w1 ⟨rfl, hO, hsz, hd⟩
  replace hd := hd (Not0 w.heap.size) (fun b h => h)
  clear hsz ht
  generalize hpp : w.heap.size + 1 = p at *
  clear hpp
  have ht : Calls Try.prog 35 #[.pointer (some ⟨p, 0, none⟩)] w1 (RetDisk w1 (Not0 w.heap.size) p 3 (.tuple #[.int .i64 0, .int .i64 0]) (pgOne zeros4096) []) :=
    take_ok _ p 3 _ _ 0 _ hd (fun b h => Nat.lt_of_lt_of_le h hO.size) (by decide) rfl (fun j hj => by omega)
  clear hd
  go_wp2_with fail
  (with_reducible refine ht.mono ?_)
  rintro e w2 ⟨rfl, hd, ho⟩
  replace hO := old_not hO ho (fun b h => h)
  clear ht ho
  obtain ⟨fl, hfl⟩ : ∃ fl, fs.take 30 = fl := ⟨_, rfl⟩
  have hB2 := bools_take hB 30
  have hfn : fl.length = min 30 fs.length := by rw [← hfl, List.length_take]
  rw [hfl] at hB2
  have hfi : ∀ j : Nat, j < fl.length → fs[j]? = fl[j]? := fun j hj => by rw [← hfl, List.getElem?_take, if_pos (by omega)]
  clear hfl
  go_upto_region 7 with (fail)
  go_cut [9] (fun s9 wx => s9 = .int .i64 fl.length ∧ wx = w2)
  case first =>
    clear hfi
    by_cases h30 : fs.length ≤ 30
    · have e : fl.length = fs.length := by omega
      have h30' : (fs.length : Int) ≤ 30 := by omega
      clear hfn
      go_wp2
      go_meet
      case rel => exact ⟨by first | rfl | rw [e], rfl⟩
    · have e : fl.length = 30 := by omega
      have h30' : (30 : Int) < fs.length := by omega
      clear hfn
      go_wp2
      go_meet
      case rel => exact ⟨by first | rfl | rw [e]; rfl, rfl⟩
  case rest =>
  obtain ⟨rfl, rfl⟩ := hcut
  have hf30 : fl.length ≤ 30 := by omega
  have hfle : fl.length ≤ fs.length := by omega
  have hfc : fl.length ≤ c := hB2.1
  clear hfn
  have hsl := slice_bools wc ad fl.length c fs.length hfc
  have ht := fail_calls _ p 3 _ _ ad fl c _ hd (fun b h => Nat.lt_of_lt_of_le h hO.size) (bools_old hB2 hO) (by omega)
  clear hd
  go_wp2_with fail
  (with_reducible refine ht.mono ?_)
  rintro e w5 ⟨rfl, hd, ho⟩
  replace hO := old_not hO ho (fun b h => h)
  clear ht ho hsl
  obtain ⟨w6, hmk, hrow, hO6⟩ := make_page w5
  have hge := hO.size
  have hE : EAt 3 p w5.heap.size w zeros4096 (pgOne zeros4096) fl w6 :=
    ⟨disk_old (disk_more hd (fun b h => h.elim .inl (fun e => .inr (by rw [e]; exact Nat.le_refl _)))) hO6, hrow, old_then hO hO6, hge⟩
  go_upto_region 11 with (fail)
  clear hmk hrow hO6 hge hd hO
  generalize w5.heap.size = gp at *
  go_wp2
  go_loopw [10, 12, 13, 14] (fun v u _ _ wr => ∃ a i : Nat, v = .int .i64 a ∧ u = .int .i64 i ∧ a ≤ fl.length ∧ i ≤ 60 ∧ EAt 3 p gp w zeros4096 (pgOne zeros4096) (fl.drop a) wr) (fun _ u _ _ _ => (61 - intOf u).toNat)
  case atStart => exact ⟨0, 0, rfl, rfl, by omega, by omega, hE⟩
  case round =>
  clear hE
  obtain ⟨a, i, rfl, rfl, ha1, hi, hE0⟩ := hrel
  by_cases hlt : i < l.length ∧ i < 60
  · obtain ⟨hil, hi60⟩ := hlt
    obtain ⟨x, hx⟩ : ∃ x, l[i]? = some x := ⟨_, List.getElem?_eq_getElem hil⟩
    obtain ⟨hx64, bb, off, rfl, hbl, hcx⟩ := hI.2.2.2 i x hx
    have c0 : wr.cell? ⟨bb, off + i, none⟩ = some (.int .i64 x) := by rw [(Only.of_below hE0.2.2.1).cell bb _ hbl (fun f => f)]; exact hcx
    have hm7 := i64_mask7 x
    have hm1 := i64_mask1 x
    have HI := Lib.hid hI
    have HB := Lib.hid hB
    have HF := Lib.hid hfi
    clear hcx hx hI hB hfi hB2
    have hcases : x % 8 = 0 ∨ x % 8 = 1 ∨ x % 8 = 2 ∨ x % 8 = 3 ∨ 4 ≤ x % 8 := by omega
    rcases hcases with h8 | h8 | h8 | h8 | h8
    · rw [h8] at hm7
      have ht := eat_wnone hE0 1 (some ⟨gp, 0, none⟩) 4096 4096 rfl
      go_wp2_with fail
      (with_reducible refine ht.mono ?_)
      rintro e wF ⟨rfl, hE⟩
      clear ht hE0
      obtain ⟨a2, ha⟩ : ∃ a2, a2 = a := ⟨_, rfl⟩
      subst ha
      have ha2 := ha1
      have ht := eat_left hE
      rw [show (fl.drop a2).length = fl.length - a2 from List.length_drop] at ht
      go_wp2_with fail
      (with_reducible refine ht.mono ?_)
      rintro e wL ⟨rfl, hbL⟩
      have HE := Lib.hid (eat_old hE hbL)
      clear ht hE hbL
      go_wp2
      go_roundw
      case rel => exact ⟨a2, i + 1, rfl, by go_num, ha2, by omega, HE.out⟩
      case measure => (simp [intOf]) <;> omega
    · rw [h8] at hm7
      have ht := eat_rnone hE0 2 rfl
      go_wp2_with fail
      (with_reducible refine ht.mono ?_)
      rintro e wF ⟨rfl, hE⟩
      clear ht hE0
      obtain ⟨a2, ha⟩ : ∃ a2, a2 = a := ⟨_, rfl⟩
      subst ha
      have ha2 := ha1
      have ht := eat_left hE
      rw [show (fl.drop a2).length = fl.length - a2 from List.length_drop] at ht
      go_wp2_with fail
      (with_reducible refine ht.mono ?_)
      rintro e wL ⟨rfl, hbL⟩
      have HE := Lib.hid (eat_old hE hbL)
      clear ht hE hbL
      go_wp2
      go_roundw
      case rel => exact ⟨a2, i + 1, rfl, by go_num, ha2, by omega, HE.out⟩
      case measure => (simp [intOf]) <;> omega
    · rw [h8] at hm7
      have hs9 : (Instr.slice 68 (.slice (some ⟨gp, 0, none⟩) 4096 4096) none (some (.int .i64 9)) none).run Try.prog wr = .ok (.slice (some ⟨gp, 0, none⟩) 9 4096) wr := slice_bytes wr (some ⟨gp, 0, none⟩) 9 4096 4096 (by decide)
      have ht := eat_warg hE0 0 zeros4096 (some ⟨gp, 0, none⟩) 9 4096 rfl (by decide) (by decide)
      go_wp2_with fail
      (with_reducible refine ht.mono ?_)
      rintro e wF ⟨rfl, hE⟩
      clear ht hE0
      obtain ⟨a2, ha⟩ : ∃ a2, a2 = a := ⟨_, rfl⟩
      subst ha
      have ha2 := ha1
      have ht := eat_left hE
      rw [show (fl.drop a2).length = fl.length - a2 from List.length_drop] at ht
      go_wp2_with fail
      (with_reducible refine ht.mono ?_)
      rintro e wL ⟨rfl, hbL⟩
      have HE := Lib.hid (eat_old hE hbL)
      clear ht hE hbL
      go_wp2
      go_roundw
      case rel => exact ⟨a2, i + 1, rfl, by go_num, ha2, by omega, HE.out⟩
      case measure => (simp [intOf]) <;> omega
    · rw [h8] at hm7
      have ht := eat_gnone hE0 1 rfl
      go_wp2_with fail
      (with_reducible refine ht.mono ?_)
      rintro e wF ⟨rfl, hE⟩
      clear ht hE0
      obtain ⟨a2, ha⟩ : ∃ a2, a2 = a := ⟨_, rfl⟩
      subst ha
      have ha2 := ha1
      have ht := eat_left hE
      rw [show (fl.drop a2).length = fl.length - a2 from List.length_drop] at ht
      go_wp2_with fail
      (with_reducible refine ht.mono ?_)
      rintro e wL ⟨rfl, hbL⟩
      have HE := Lib.hid (eat_old hE hbL)
      clear ht hE hbL
      go_wp2
      go_roundw
      case rel => exact ⟨a2, i + 1, rfl, by go_num, ha2, by omega, HE.out⟩
      case measure => (simp [intOf]) <;> omega
    · have e0 : (x % 8 == 0) = false := by rw [beq_eq_false_iff_ne]; omega
      have e1 : (x % 8 == 1) = false := by rw [beq_eq_false_iff_ne]; omega
      have e2 : (x % 8 == 2) = false := by rw [beq_eq_false_iff_ne]; omega
      have e3 : (x % 8 == 3) = false := by rw [beq_eq_false_iff_ne]; omega
      by_cases han : a < fl.length
      · obtain ⟨b, hb⟩ : ∃ b, fl[a]? = some b := ⟨_, List.getElem?_eq_getElem han⟩
        obtain ⟨ab, ao, rfl, hab, hcb⟩ := HB.out.2.2.2 a b (by rw [HF.out a han]; exact hb)
        have cb : wr.cell? ⟨ab, ao + a, none⟩ = some (.bool b) := by rw [(Only.of_below hE0.2.2.1).cell ab _ hab (fun f => f)]; exact hcb
        have hdr : fl.drop a = b :: fl.drop (a + 1) := by rw [List.drop_eq_getElem_cons han]; congr 1; rw [List.getElem?_eq_getElem han] at hb; exact Option.some.inj hb
        have htl : (fl.drop a).tail = fl.drop (a + 1) := by rw [hdr]; rfl
        have hhd : (fl.drop a).headD false = b := by rw [hdr]; rfl
        have hmin : (a : Int) + 1 ≤ fl.length := by omega
        have hafs : a < fs.length := by omega
        clear hcb hb hdr
        cases b
        · by_cases h1 : x % 2 = 0
          · rw [h1] at hm1
            obtain ⟨a2, ha⟩ : ∃ a2, a2 = a + 1 := ⟨_, rfl⟩
            have ha2 : a2 ≤ fl.length := by omega
            have ht := eat_write hE0 0 zeros4096 rfl hhd zeros4096_length
            rw [htl] at ht
            rw [pgOne_upd] at ht
            go_wp2_with fail
            (with_reducible refine ht.mono ?_)
            rintro e wF ⟨rfl, hE⟩
            clear ht hE0
            rw [← ha] at hE
            have ht := eat_left hE
            rw [show (fl.drop a2).length = fl.length - a2 from List.length_drop] at ht
            go_wp2_with fail
            (with_reducible refine ht.mono ?_)
            rintro e wL ⟨rfl, hbL⟩
            have HE := Lib.hid (eat_old hE hbL)
            clear ht hE hbL
            go_wp2
            go_roundw
            case rel => exact ⟨a2, i + 1, by rw [ha]; go_num, by go_num, ha2, by omega, HE.out⟩
            case measure => (simp [intOf]) <;> omega
          · rw [show x % 2 = 1 by omega] at hm1
            obtain ⟨a2, ha⟩ : ∃ a2, a2 = a + 1 := ⟨_, rfl⟩
            have ha2 : a2 ≤ fl.length := by omega
            have ht := eat_read hE0 0 zeros4096 rfl hhd
            rw [htl] at ht
            go_wp2_with fail
            (with_reducible refine ht.mono ?_)
            rintro e wF ⟨gr, cr, rfl, -, hE⟩
            clear ht hE0
            rw [← ha] at hE
            have ht := eat_left hE
            rw [show (fl.drop a2).length = fl.length - a2 from List.length_drop] at ht
            go_wp2_with fail
            (with_reducible refine ht.mono ?_)
            rintro e wL ⟨rfl, hbL⟩
            have HE := Lib.hid (eat_old hE hbL)
            clear ht hE hbL
            go_wp2
            go_roundw
            case rel => exact ⟨a2, i + 1, by rw [ha]; go_num, by go_num, ha2, by omega, HE.out⟩
            case measure => (simp [intOf]) <;> omega
        · by_cases h1 : x % 2 = 0
          · rw [h1] at hm1
            obtain ⟨a2, ha⟩ : ∃ a2, a2 = a + 1 := ⟨_, rfl⟩
            have ha2 : a2 ≤ fl.length := by omega
            have ht := eat_wfail hE0 0 zeros4096 rfl hhd
            rw [htl] at ht
            go_wp2_with fail
            (with_reducible refine ht.mono ?_)
            rintro e wF ⟨rfl, hE⟩
            clear ht hE0
            rw [← ha] at hE
            have ht := eat_left hE
            rw [show (fl.drop a2).length = fl.length - a2 from List.length_drop] at ht
            go_wp2_with fail
            (with_reducible refine ht.mono ?_)
            rintro e wL ⟨rfl, hbL⟩
            have HE := Lib.hid (eat_old hE hbL)
            clear ht hE hbL
            go_wp2
            go_roundw
            case rel => exact ⟨a2, i + 1, by rw [ha]; go_num, by go_num, ha2, by omega, HE.out⟩
            case measure => (simp [intOf]) <;> omega
          · rw [show x % 2 = 1 by omega] at hm1
            obtain ⟨a2, ha⟩ : ∃ a2, a2 = a + 1 := ⟨_, rfl⟩
            have ha2 : a2 ≤ fl.length := by omega
            have ht := eat_rfail hE0 0 zeros4096 rfl hhd
            rw [htl] at ht
            go_wp2_with fail
            (with_reducible refine ht.mono ?_)
            rintro e wF ⟨rfl, hE⟩
            clear ht hE0
            rw [← ha] at hE
            have ht := eat_left hE
            rw [show (fl.drop a2).length = fl.length - a2 from List.length_drop] at ht
            go_wp2_with fail
            (with_reducible refine ht.mono ?_)
            rintro e wL ⟨rfl, hbL⟩
            have HE := Lib.hid (eat_old hE hbL)
            clear ht hE hbL
            go_wp2
            go_roundw
            case rel => exact ⟨a2, i + 1, by rw [ha]; go_num, by go_num, ha2, by omega, HE.out⟩
            case measure => (simp [intOf]) <;> omega
      · have hmin : (fl.length : Int) < (a : Int) + 1 := by omega
        by_cases h1 : x % 2 = 0
        · rw [h1] at hm1
          have hdr : fl.drop a = [] := List.drop_eq_nil_of_le (by omega)
          have htl : (fl.drop a).tail = fl.drop a := by rw [hdr]; rfl
          have hhd : (fl.drop a).headD false = false := by rw [hdr]; rfl
          obtain ⟨a2, ha⟩ : ∃ a2, a2 = a := ⟨_, rfl⟩
          have ha2 : a2 ≤ fl.length := by omega
          have ht := eat_write hE0 0 zeros4096 rfl hhd zeros4096_length
          rw [htl] at ht
          rw [pgOne_upd] at ht
          go_wp2_with fail
          (with_reducible refine ht.mono ?_)
          rintro e wF ⟨rfl, hE⟩
          clear ht hE0
          rw [← ha] at hE
          have ht := eat_left hE
          rw [show (fl.drop a2).length = fl.length - a2 from List.length_drop] at ht
          go_wp2_with fail
          (with_reducible refine ht.mono ?_)
          rintro e wL ⟨rfl, hbL⟩
          have HE := Lib.hid (eat_old hE hbL)
          clear ht hE hbL
          go_wp2
          go_roundw
          case rel => exact ⟨a2, i + 1, by rw [ha, show a = fl.length by omega], by go_num, ha2, by omega, HE.out⟩
          case measure => (simp [intOf]) <;> omega
        · rw [show x % 2 = 1 by omega] at hm1
          have hdr : fl.drop a = [] := List.drop_eq_nil_of_le (by omega)
          have htl : (fl.drop a).tail = fl.drop a := by rw [hdr]; rfl
          have hhd : (fl.drop a).headD false = false := by rw [hdr]; rfl
          obtain ⟨a2, ha⟩ : ∃ a2, a2 = a := ⟨_, rfl⟩
          have ha2 : a2 ≤ fl.length := by omega
          have ht := eat_read hE0 0 zeros4096 rfl hhd
          rw [htl] at ht
          go_wp2_with fail
          (with_reducible refine ht.mono ?_)
          rintro e wF ⟨gr, cr, rfl, -, hE⟩
          clear ht hE0
          rw [← ha] at hE
          have ht := eat_left hE
          rw [show (fl.drop a2).length = fl.length - a2 from List.length_drop] at ht
          go_wp2_with fail
          (with_reducible refine ht.mono ?_)
          rintro e wL ⟨rfl, hbL⟩
          have HE := Lib.hid (eat_old hE hbL)
          clear ht hE hbL
          go_wp2
          go_roundw
          case rel => exact ⟨a2, i + 1, by rw [ha, show a = fl.length by omega], by go_num, ha2, by omega, HE.out⟩
          case measure => (simp [intOf]) <;> omega
  · have hcase : ¬ i < l.length ∨ (i < l.length ∧ i = 60) := by omega
    have HE := Lib.hid hE0
    have HI := Lib.hid hI
    have HB := Lib.hid hB
    clear hE0 hI hB hfi hB2
    rcases hcase with hil | ⟨hil, rfl⟩
    all_goals
      clear hlt
      go_wp2_with fail
      (with_reducible refine (diskTold_calls _).mono ?_)
      rintro e wB ⟨rfl, hbB⟩
      have hEB := eat_old HE.out hbB
      have ht : Calls Try.prog 46 #[.pointer (some ⟨p, 0, none⟩)] wB (RetB wB (.int .i64 2)) := by
        have := free_calls _ p 3 _ _ wB hEB.1
        rw [pg3_cnt] at this
        exact this
      clear hbB
      go_wp2_with fail
      (with_reducible refine ht.mono ?_)
      rintro e wC ⟨rfl, hbC⟩
      have hOC := old_then hEB.2.2.1 hbC
      clear hEB hbC ht
      go_wp2
      go_ret
      exact ⟨rfl, hOC⟩
end Go.Proofs.Ytbnbchclbblbkaa
