/- The statement TlbApart: its plain part and its walk. -/
import Derived.Test.YtfiofjalpaeohaaTlbTold2
import Derived.Test.YtfiofjalpaeohaaTlbArg
import Derived.Test.YtfiofjalpaeohaaBits
import Derived.Deep.CutBlock
namespace Go.Proofs.Ytfiofjalpaeohaa
set_option linter.unusedVariables false
set_option linter.unusedSimpArgs false
open Go.RowKit

/-- Which lines are lost. -/
def apB (K : Int) (k : Ln) : Ln → Bool := if K = 0 then idB k.id else if K = 1 then asidB k.id k.asid else if K = 2 then pageB k.id k.ip else frameB k.fr
theorem linesP_lose (B : Ln → Bool) (t : List Pl) : linesP (t.map (loseP B)) = (linesP t).filter (fun l => !B l) := by
  induction t with
  | nil => rfl
  | cons q t ih =>
    obtain ⟨on, l⟩ := q
    cases on
    · simpa [linesP, loseP] using ih
    · cases hB : B l
      · simpa [linesP, loseP, hB] using ih
      · simpa [linesP, loseP, hB, pl0] using ih
theorem linesT_lose (B : Ln → Bool) (T : List (List Pl)) : linesT (T.map (fun t => t.map (loseP B))) = (linesT T).filter (fun l => !B l) := by
  induction T with
  | nil => rfl
  | cons t T ih => simp only [List.map_cons, linesT, List.filter_append, linesP_lose, ih]
theorem cntP_lines (B : Ln → Bool) (t : List Pl) : cntP B t + ((linesP t).filter (fun l => !B l)).length = (linesP t).length := by
  induction t with
  | nil => rfl
  | cons q t ih =>
    obtain ⟨on, l⟩ := q
    cases on
    · simp [cntP, linesP]; exact ih
    · cases hB : B l
      · simp [cntP, linesP, hB]; omega
      · simp [cntP, linesP, hB]; omega
theorem cntT_lines (B : Ln → Bool) (T : List (List Pl)) : cntT B T + ((linesT T).filter (fun l => !B l)).length = (linesT T).length := by
  induction T with
  | nil => rfl
  | cons t T ih =>
    have := cntP_lines B t
    simp only [cntT, linesT, List.filter_append, List.length_append]
    omega

section
variable {w x y : World} {p gs : Nat} {bs : List Nat} {n wy : Nat} {T : List (List Pl)}
/-- Blocks of lines beside a TLB. -/
theorem holds_tlb {L : List (Nat × Array Value × TypeId)} (h : IsTlb x p gs bs n wy T) (hH : Holds w L x) (hL : ∀ z ∈ L, z.2.2 = 64) (ho : Only (fun z => z ∈ bs) x y) (hb : ∀ b ∈ bs, w.heap.size ≤ b) : Holds w L y := by
  refine ⟨Only.below (((Only.of_below hH.1).mono (G := fun k => w.heap.size ≤ k) (fun _ _ f => f.elim)).trans (ho.mono fun i _ e => hb i e)) (Nat.le_refl _), has_only' ho (fun z hz e => ?_) hH.2⟩
  obtain ⟨i, hi⟩ := List.getElem?_of_mem e
  have hiT : i < T.length := by rw [h.lT, ← h.lb]; exact (List.getElem?_eq_some_iff.1 hi).1
  have hblk := (h.set_ i z.1 T[i] hi (List.getElem?_eq_getElem hiT)).2
  have hz2 := has_mem' hH.2 z hz
  rw [hblk, hL z hz] at hz2
  simp only [Option.some.injEq, Obj.cells.injEq] at hz2
  exact absurd hz2.2.1 (by decide)
/-- A line laid, whichever. -/
theorem fill_any (h : IsTlb x p gs bs n wy T) (l : Ln) (way : Int) : Calls Try.prog 30 #[.pointer (some ⟨p, 0, none⟩), .agg l.cells.toArray, .int .i64 way] x
    (fun e y => ∃ v T', e = .returned v ∧ IsTlb y p gs bs n wy T' ∧ Only (fun z => z ∈ bs) x y) := by
  have hn := h.h1.1
  obtain ⟨b, t, hb, ht, htl⟩ := tlb_block h (i := l.vp % n) (Nat.mod_lt _ (by omega))
  have hJ := fillJ_lt t l way wy h.h2.1 h.h2.2 htl
  refine (fill_calls h l way rfl hb ht _ (List.getElem?_eq_getElem (by rw [htl]; exact hJ))).mono ?_
  rintro e y ⟨rfl, h1, h2⟩
  exact ⟨_, _, rfl, h1, h2.mono fun i _ e => by rw [e]; exact List.mem_of_getElem? hb⟩
theorem list_tlb (h : IsTlb x p gs bs n wy T) : Calls Try.prog 33 #[.pointer (some ⟨p, 0, none⟩)] x
    (fun e y => ∃ v B, e = .returned v ∧ OwnLns y B v (linesT T) ∧ (∀ b, B ≤ b → ¬ b ∈ bs) ∧ Old x y) := by
  refine (list_calls h).mono ?_
  rintro e y ⟨v, rfl, h1, h2⟩
  exact ⟨v, _, rfl, h1, fun b hb hm => by have := (tlb_lt h).2.2 b hm; omega, h2⟩
theorem linesT_512 (h : IsTlb x p gs bs n wy T) : (linesT T).length ≤ 512 := by
  have a := linesT_len wy T (tlb_lens h)
  have b1 := h.h1.2
  have b2 := h.h2.2
  have b3 := Nat.mul_le_mul (show T.length ≤ 64 by rw [h.lT]; exact b1) b2
  omega
end

set_option maxHeartbeats 8000000 in
set_option maxRecDepth 100000 in
theorem tlbApart_walk (ad : Option Addr) (l : List TOp) (cap : Nat) (kind : Int) (hkind : (Lit.int .i64 kind).wf = true) (k : Ln) (w : World) (hN : l.length ≤ maxLen) (hOps : TOps w ad l) :
    Calls Try.prog 6 #[.slice ad l.length cap, .int .i64 kind, .agg k.cells.toArray] w (RetB w (.bool true)) := by
  have hl63 : l.length ≤ 9223372036854775807 := by unfold maxLen at hN; omega
  have hnew := fun x => tlbNew_calls x 8 8 (by unfold setsB; omega) (by decide)
  have HOps := Lib.hid hOps
  have HW := Lib.hid hkind
  have HNew := Lib.hid hnew
  clear hOps hkind hN hnew
  have HKK := Lib.hid (rfl : k = k)
  obtain ⟨kc, hkc⟩ : ∃ kc, kc = k.cells.toArray := ⟨_, rfl⟩
  obtain ⟨gid, gas, gvp, gip, gfr, a0, a1, a2, a3, a4, a5⟩ := k
  change Calls _ _ #[_, _, .agg #[.int .i64 gid, .int .i64 gas, .int .u64 (gvp : Nat), .int .u64 (gip : Nat), .int .i64 gfr, .bool a0, .bool a1, .bool a2, .bool a3, .bool a4, .bool a5]] w _
  clear hkc kc
  go_enter Try.func6, Try.ntmps6
  go_upto_region 1 with (fail)
  have hH := holds_new #[.int .i64 gid, .int .i64 gas, .int .u64 (gvp : Nat), .int .u64 (gip : Nat), .int .i64 gfr, .bool a0, .bool a1, .bool a2, .bool a3, .bool a4, .bool a5] 64 (holds_nil w)
  generalize w.alloc (.cells #[.int .i64 gid, .int .i64 gas, .int .u64 (gvp : Nat), .int .u64 (gip : Nat), .int .i64 gfr, .bool a0, .bool a1, .bool a2, .bool a3, .bool a4, .bool a5] 64) = W at *
  generalize w.heap.size = kb at *
  have HH := Lib.hid hH
  have hnew : Calls Try.prog 29 #[.int .i64 8, .int .i64 8] W (RetTlb W 8 8) := HNew.out W
  clear hH HKK
  go_wp2_with fail
  (with_reducible refine hnew.mono ?_)
  rintro e x ⟨p, gs, bs, rfl, hT, hO, hp, hg, hb⟩
  have hH := holds_old HH.out hO
  have hbw : ∀ b ∈ bs, w.heap.size ≤ b := fun b hm => Nat.le_trans HH.out.1.size (hb b hm)
  have HBW := Lib.hid hbw
  have HT := Lib.hid hT
  have HH := Lib.hid hH
  clear hnew hT hO hp hg hb hH hbw
  go_upto_block 0 with (fail)
  go_cut [9] (fun _ wx => ∃ T, IsTlb wx p gs bs 8 8 T ∧ Holds w [(kb, #[.int .i64 gid, .int .i64 gas, .int .u64 (gvp : Nat), .int .u64 (gip : Nat), .int .i64 gfr, .bool a0, .bool a1, .bool a2, .bool a3, .bool a4, .bool a5], 64)] wx)
  case first =>
    go_wp2
    go_loopw [9] (fun s9 wx => ∃ (i : Nat) (T : List (List Pl)), i ≤ l.length ∧ i ≤ 60 ∧ s9 = .int .i64 (i : Nat) ∧ IsTlb wx p gs bs 8 8 T ∧ Holds w [(kb, #[.int .i64 gid, .int .i64 gas, .int .u64 (gvp : Nat), .int .u64 (gip : Nat), .int .i64 gfr, .bool a0, .bool a1, .bool a2, .bool a3, .bool a4, .bool a5], 64)] wx) (fun s9 _ => l.length - (intOf s9).toNat)
    case atStart => exact ⟨0, _, by omega, by omega, rfl, HT.out, HH.out⟩
    case round =>
      clear HT HH
      obtain ⟨i, T, hi, hi60, rfl, hT, hH⟩ := hrel
      have HR := Lib.hid (And.intro hT hH)
      clear hT hH
      by_cases hil : i = l.length
      · have e1 : ¬ (i : Int) < l.length := by omega
        clear hil hi hi60
        go_wp2
        go_meet
        case rel => exact ⟨T, HR.out.1, HR.out.2⟩
      · have e1 : (i : Int) < l.length := by omega
        by_cases h60 : i = 60
        · have e2 : ¬ (i : Int) < 60 := by omega
          clear hil hi hi60 h60
          go_wp2
          go_meet
          case rel => exact ⟨T, HR.out.1, HR.out.2⟩
        · have e2 : (i : Int) < 60 := by omega
          have hlt : i < l.length := by omega
          have HI := Lib.hid (And.intro hlt (show i < 60 by omega))
          obtain ⟨o, ho⟩ : ∃ o, l[i]? = some o := ⟨_, List.getElem?_eq_getElem hlt⟩
          obtain ⟨_, b0, off, rfl, hb0, hc⟩ := tops_old HOps.out HR.out.2.1 i o ho
          have hc2 : wr.drew.cell? ⟨b0, off + i * 14 + 2, none⟩ = some (.int .i64 o.way) := hc 2 _ rfl
          have hcl : ∀ (c : Nat) (v : Value), o.l.cells[c]? = some v → wr.drew.cell? ⟨b0, off + i * 14 + 3 + c, none⟩ = some v := fun c v hv => by
            rw [show off + i * 14 + 3 + c = off + i * 14 + (c + 3) by omega]
            exact hc (c + 3) v (by simpa [TOp.cells] using hv)
          have hTd := tlb_old HR.out.1 (old_drew (old_refl wr))
          have hfill := fill_any hTd o.l o.way
          have HCL := Lib.hid hcl
          have HTD := Lib.hid (And.intro hTd (holds_drew HR.out.2))
          clear hil hi hi60 h60 hlt ho hb0 hc hcl hTd
          go_upto_region 7 with (fail)
          refine wp_region_tail (S := Is wr.drew) 11 (by kernel_rfl) (by kernel_rfl) (by kernel_rfl) (by decide) rfl ?_
          repeat (apply walked_cons; (first | exact gives_and rfl rfl rfl rfl | exact gives_or rfl rfl rfl rfl | (focus (intro wS hS; cases hS; go_wp2_with (refine wpList_load_at rfl 64 _ rfl b0 (off + i * 14 + 3) rfl o.l.cells _ HCL.out Try.underlying64 rfl (by kernel_rfl) ?_); exact ⟨rfl, rfl, rfl⟩; done)) | (focus (apply gives_guard; (focus (first | exact wanted_yes rfl rfl rfl | exact wanted_no rfl rfl rfl | exact wanted_yes2 rfl rfl rfl | exact wanted_no2 rfl rfl rfl)); (focus (intro hx9; (try simp only [Bool.not_eq_true', Bool.and_eq_true, Bool.not_not] at hx9); (try obtain ⟨hx9, hy9⟩ := hx9); (try subst hy9); (try subst hx9); (first | exact gives_and rfl rfl rfl rfl | exact gives_or rfl rfl rfl rfl | (intro wS hS; cases hS; go_wp2_with (refine wpList_load_at rfl 64 _ rfl b0 (off + i * 14 + 3) rfl o.l.cells _ HCL.out Try.underlying64 rfl (by kernel_rfl) ?_); exact ⟨rfl, rfl, rfl⟩; done))))))); rfl; (try simp only [Act.put, List.setIfInBounds_toArray, List.set_cons_succ, List.set_cons_zero]))
          apply walked_nil
          intro wS hS
          cases hS
          show wpList _ _ _ [_] _ _
          go_wp2_with fail
          (with_reducible refine hfill.mono ?_)
          rintro e y ⟨v, T', rfl, hT', hO'⟩
          have hH' := holds_tlb HTD.out.1 HTD.out.2 (by simp) hO' HBW.out
          have HX := Lib.hid (And.intro hT' hH')
          clear hfill hT' hH' hO' hc2 HCL
          go_wp2
          go_roundw
          case rel => exact ⟨i + 1, T', HI.out.1, HI.out.2, by simp, HX.out.1, HX.out.2⟩
          case measure => have := HI.out.1; (simp [intOf]) <;> omega
  case rest =>
  clear HT HH
  obtain ⟨T, hT, hH⟩ := hcut
  have hlist := list_tlb hT
  have HR := Lib.hid (And.intro hT hH)
  clear hT hH
  go_wp2_with fail
  (with_reducible refine hlist.mono ?_)
  rintro e x2 ⟨v, B1, rfl, hown, hbB, hO⟩
  have hT := tlb_old HR.out.1 hO
  have hH := holds_old HR.out.2 hO
  have HO := Lib.hid (And.intro hown hbB)
  have HR := Lib.hid (And.intro hT hH)
  clear hT hH hlist hown hbB hO
  obtain ⟨K, hK⟩ : ∃ K, kind % 4 = K := ⟨_, rfl⟩
  have hand : bits .and .i64 kind 3 = K := by rw [i64_mask3]; exact hK
  have hK4 : K = 0 ∨ K = 1 ∨ K = 2 ∨ K = 3 := by omega
  have HK := Lib.hid (And.intro hand hK4)
  clear hK hand hK4
  go_upto_block 2 with (fail)
  go_cut [11, 51] (fun s11 _ z => ∃ wx, wx = z ∧ s11 = .int .i64 (cntT (apB K ⟨gid, gas, gvp, gip, gfr, a0, a1, a2, a3, a4, a5⟩) T : Nat) ∧ IsTlb wx p gs bs 8 8 (T.map (fun t => t.map (loseP (apB K ⟨gid, gas, gvp, gip, gfr, a0, a1, a2, a3, a4, a5⟩)))) ∧ OwnLns wx B1 v (linesT T) ∧ Holds w [(kb, #[.int .i64 gid, .int .i64 gas, .int .u64 (gvp : Nat), .int .u64 (gip : Nat), .int .i64 gfr, .bool a0, .bool a1, .bool a2, .bool a3, .bool a4, .bool a5], 64)] wx)
  case first =>
    obtain ⟨hand, hK4⟩ := HK.out
    rcases hK4 with rfl | rfl | rfl | rfl
    · obtain ⟨hB, hB2⟩ := HO.out
      have hc := IDLose_calls HR.out.1 gid
      obtain ⟨g0, g1, _⟩ := HR.out.2
      obtain ⟨k1, _, _⟩ := of_block g1
      clear g0 g1 hB hB2
      go_wp2_with fail
      (with_reducible refine hc.mono ?_)
      rintro e y ⟨rfl, h1, h2⟩
      have hY : cntT (idB gid) T = cntT (apB 0 ⟨gid, gas, gvp, gip, gfr, a0, a1, a2, a3, a4, a5⟩) T ∧ IsTlb y p gs bs 8 8 (T.map (fun t => t.map (loseP (apB 0 ⟨gid, gas, gvp, gip, gfr, a0, a1, a2, a3, a4, a5⟩)))) ∧ OwnLns y B1 v (linesT T) ∧ Holds w [(kb, #[.int .i64 gid, .int .i64 gas, .int .u64 (gvp : Nat), .int .u64 (gip : Nat), .int .i64 gfr, .bool a0, .bool a1, .bool a2, .bool a3, .bool a4, .bool a5], 64)] y := ⟨rfl, h1, own_only HO.out.1 h2 HO.out.2, holds_tlb HR.out.1 HR.out.2 (by simp) h2 HBW.out⟩
      have HY := Lib.hid hY
      clear h1 h2 hc k1 hY
      go_wp2
      go_meet
      case rel => exact ⟨_, rfl, by rw [HY.out.1], HY.out.2⟩
    · obtain ⟨hB, hB2⟩ := HO.out
      have hc := ASIDLose_calls HR.out.1 gid gas
      obtain ⟨g0, g1, _⟩ := HR.out.2
      obtain ⟨k1, _, _⟩ := of_block g1
      clear g0 g1 hB hB2
      go_wp2_with fail
      (with_reducible refine hc.mono ?_)
      rintro e y ⟨rfl, h1, h2⟩
      have hY : cntT (asidB gid gas) T = cntT (apB 1 ⟨gid, gas, gvp, gip, gfr, a0, a1, a2, a3, a4, a5⟩) T ∧ IsTlb y p gs bs 8 8 (T.map (fun t => t.map (loseP (apB 1 ⟨gid, gas, gvp, gip, gfr, a0, a1, a2, a3, a4, a5⟩)))) ∧ OwnLns y B1 v (linesT T) ∧ Holds w [(kb, #[.int .i64 gid, .int .i64 gas, .int .u64 (gvp : Nat), .int .u64 (gip : Nat), .int .i64 gfr, .bool a0, .bool a1, .bool a2, .bool a3, .bool a4, .bool a5], 64)] y := ⟨rfl, h1, own_only HO.out.1 h2 HO.out.2, holds_tlb HR.out.1 HR.out.2 (by simp) h2 HBW.out⟩
      have HY := Lib.hid hY
      clear h1 h2 hc k1 hY
      go_wp2
      go_meet
      case rel => exact ⟨_, rfl, by rw [HY.out.1], HY.out.2⟩
    · obtain ⟨hB, hB2⟩ := HO.out
      have hc := PageLose_calls HR.out.1 gid gip
      obtain ⟨g0, g1, _⟩ := HR.out.2
      obtain ⟨k1, _, _⟩ := of_block g1
      clear g0 g1 hB hB2
      go_wp2_with fail
      (with_reducible refine hc.mono ?_)
      rintro e y ⟨rfl, h1, h2⟩
      have hY : cntT (pageB gid gip) T = cntT (apB 2 ⟨gid, gas, gvp, gip, gfr, a0, a1, a2, a3, a4, a5⟩) T ∧ IsTlb y p gs bs 8 8 (T.map (fun t => t.map (loseP (apB 2 ⟨gid, gas, gvp, gip, gfr, a0, a1, a2, a3, a4, a5⟩)))) ∧ OwnLns y B1 v (linesT T) ∧ Holds w [(kb, #[.int .i64 gid, .int .i64 gas, .int .u64 (gvp : Nat), .int .u64 (gip : Nat), .int .i64 gfr, .bool a0, .bool a1, .bool a2, .bool a3, .bool a4, .bool a5], 64)] y := ⟨rfl, h1, own_only HO.out.1 h2 HO.out.2, holds_tlb HR.out.1 HR.out.2 (by simp) h2 HBW.out⟩
      have HY := Lib.hid hY
      clear h1 h2 hc k1 hY
      go_wp2
      go_meet
      case rel => exact ⟨_, rfl, by rw [HY.out.1], HY.out.2⟩
    · obtain ⟨hB, hB2⟩ := HO.out
      have hc := FrameLose_calls HR.out.1 gfr
      obtain ⟨g0, g1, _⟩ := HR.out.2
      obtain ⟨k1, _, _⟩ := of_block g1
      clear g0 g1 hB hB2
      go_wp2_with fail
      (with_reducible refine hc.mono ?_)
      rintro e y ⟨rfl, h1, h2⟩
      have hY : cntT (frameB gfr) T = cntT (apB 3 ⟨gid, gas, gvp, gip, gfr, a0, a1, a2, a3, a4, a5⟩) T ∧ IsTlb y p gs bs 8 8 (T.map (fun t => t.map (loseP (apB 3 ⟨gid, gas, gvp, gip, gfr, a0, a1, a2, a3, a4, a5⟩)))) ∧ OwnLns y B1 v (linesT T) ∧ Holds w [(kb, #[.int .i64 gid, .int .i64 gas, .int .u64 (gvp : Nat), .int .u64 (gip : Nat), .int .i64 gfr, .bool a0, .bool a1, .bool a2, .bool a3, .bool a4, .bool a5], 64)] y := ⟨rfl, h1, own_only HO.out.1 h2 HO.out.2, holds_tlb HR.out.1 HR.out.2 (by simp) h2 HBW.out⟩
      have HY := Lib.hid hY
      clear h1 h2 hc k1 hY
      go_wp2
      go_meet
      case rel => exact ⟨_, rfl, by rw [HY.out.1], HY.out.2⟩
  case rest =>
  clear HO HR
  obtain ⟨z, rfl, rfl, hT, hown, hH⟩ := hcut
  have h512 := linesT_512 hT
  rw [linesT_lose] at h512
  have hcl := cntT_lines (apB K ⟨gid, gas, gvp, gip, gfr, a0, a1, a2, a3, a4, a5⟩) T
  have hl3 := linesT_lose (apB K ⟨gid, gas, gvp, gip, gfr, a0, a1, a2, a3, a4, a5⟩) T
  obtain ⟨ad1, c1, rfl, hlc, hcm, _, q1⟩ := own_value hown
  have hL5 : (linesT T).length ≤ 1000000 := by
    have := cntT_lines (apB K ⟨gid, gas, gvp, gip, gfr, a0, a1, a2, a3, a4, a5⟩) T
    have h2 := hT.h1
    have := cntT_le (apB K ⟨gid, gas, gvp, gip, gfr, a0, a1, a2, a3, a4, a5⟩) 8 T (by
      intro t ht
      have := tlb_lens hT (t.map (loseP (apB K ⟨gid, gas, gvp, gip, gfr, a0, a1, a2, a3, a4, a5⟩))) (List.mem_map.2 ⟨t, ht, rfl⟩)
      rwa [List.length_map] at this)
    have h3 := hT.lT
    rw [List.length_map] at h3
    omega
  obtain ⟨L, hL⟩ : ∃ L, L = linesT T := ⟨_, rfl⟩
  rw [← hL] at hown h512 hcl hl3 hlc q1 hL5 ⊢
  obtain ⟨C, hC⟩ : ∃ C, C = cntT (apB K ⟨gid, gas, gvp, gip, gfr, a0, a1, a2, a3, a4, a5⟩) T := ⟨_, rfl⟩
  rw [← hC] at hcl ⊢
  have HT := Lib.hid hT
  have HOw := Lib.hid (And.intro hown q1)
  have HH := Lib.hid hH
  have HL3 := Lib.hid hl3
  have HCL := Lib.hid hcl
  have H5 := Lib.hid h512
  obtain ⟨N, hN⟩ : ∃ N, N = L.length := ⟨_, rfl⟩
  rw [← hN] at hL5 ⊢
  have HN := Lib.hid hN
  have n1 : (N : Int) ≤ 1000000 := by omega
  clear hT hown q1 hH hl3 hcl h512 hL hC hN hL5 hlc hcm
  go_wp2
  go_loopw [12, 13, 14, 15] (fun s12 s13 _ _ wx => ∃ (i : Nat) (L2 : List Ln), i ≤ N ∧ s13 = .int .i64 (i : Nat) ∧ OwnLns wx z.heap.size s12 L2 ∧ Old z wx ∧ L2 ++ (L.drop i).filter (fun l => !apB K ⟨gid, gas, gvp, gip, gfr, a0, a1, a2, a3, a4, a5⟩ l) = L.filter (fun l => !apB K ⟨gid, gas, gvp, gip, gfr, a0, a1, a2, a3, a4, a5⟩ l)) (fun _ s13 _ _ _ => N - (intOf s13).toNat)
  case atStart => exact ⟨0, [], by omega, rfl, own_nil, old_refl _, by simp⟩
  case round =>
    obtain ⟨i, L2, hi, rfl, ho2, hO, hfl⟩ := hrel
    have HR := Lib.hid (And.intro ho2 (And.intro hO hfl))
    clear ho2 hO hfl
    by_cases hin : i = N
    · subst hin
      have hL2 : L2 = L.filter (fun l => !apB K ⟨gid, gas, gvp, gip, gfr, a0, a1, a2, a3, a4, a5⟩ l) := by
        rw [← HR.out.2.2, List.drop_eq_nil_of_le (by rw [← HN.out]; exact Nat.le_refl _)]; simp
      obtain ⟨ad2, c2, rfl, _⟩ := own_value HR.out.1
      have hw : wrap64 ((i : Int) - (L2.length : Int)) = (C : Int) := by
        have a := HCL.out
        rw [← hL2, ← HN.out] at a
        rw [IntWalk.wrap64_in _ (by omega)]
        omega
      have HL2 := Lib.hid hL2
      have hc := told15_calls wr
      clear hi hL2
      go_wp2_with fail
      (with_reducible refine hc.mono ?_)
      rintro e y1 ⟨rfl, hO1⟩
      have hT1 := tlb_old HT.out (old_then HR.out.2.1 hO1)
      have hc := list_tlb hT1
      have H1 := Lib.hid hO1
      clear hO1 hT1
      go_wp2_with fail
      (with_reducible refine hc.mono ?_)
      rintro e y2 ⟨v3, B3, rfl, ho3, _, hO2⟩
      have hl := lines_calls ho3 (own_old (own_old HR.out.1 H1.out) hO2) (by rw [HL3.out]; have := H5.out; omega)
      rw [HL3.out, ← HL2.out, decide_eq_true (rfl : L2 = L2)] at hl
      have H2 := Lib.hid (old_then H1.out hO2)
      clear hc ho3 hO2
      go_wp2_with fail
      (with_reducible refine hl.mono ?_)
      rintro e y3 ⟨rfl, hO3⟩
      have H3 := Lib.hid (old_then HH.out.1 (old_then HR.out.2.1 (old_then H2.out hO3)))
      clear hl hO3
      go_wp2
      go_ret
      exact ⟨rfl, H3.out⟩
    · have hlt : i < N := by omega
      obtain ⟨o, ho⟩ : ∃ o, L[i]? = some o := ⟨_, List.getElem?_eq_getElem (by rw [← HN.out]; exact hlt)⟩
      obtain ⟨g1, rfl⟩ := HOw.out.2 (by rw [← HN.out]; omega)
      have hcell : ∀ (c : Nat) (u : Value), o.cells[c]? = some u → wr.cell? ⟨g1, i * 11 + c, none⟩ = some u := fun cc u hu => own_cell (own_old HOw.out.1 HR.out.2.1) rfl _ (flatC_get ln_len L i o cc u ho hu)
      have hH := holds_old HH.out HR.out.2.1
      have i1 : (i : Int) < N := by omega
      have HI := Lib.hid (And.intro hlt ho)
      have hL2 : L2.length ≤ 1000 := by
        have a := congrArg List.length HR.out.2.2
        have b := H5.out
        rw [List.length_append] at a
        omega
      have HL2 := Lib.hid hL2
      obtain ⟨lid, asid, vp, ip, fr, p0, p1, p2, s0, s1, s2⟩ := o
      change ∀ (c : Nat) (u : Value), [Value.int .i64 lid, .int .i64 asid, .int .u64 (vp : Nat), .int .u64 (ip : Nat), .int .i64 fr, .bool p0, .bool p1, .bool p2, .bool s0, .bool s1, .bool s2][c]? = some u → _ at hcell
      have HCE := Lib.hid hcell
      have HHR := Lib.hid hH
      clear hi hin hlt ho hcell hH hL2
      go_upto_region 23 with (refine wpList_load_at rfl 64 _ rfl g1 (i * 11) rfl [Value.int .i64 lid, .int .i64 asid, .int .u64 (vp : Nat), .int .u64 (ip : Nat), .int .i64 fr, .bool p0, .bool p1, .bool p2, .bool s0, .bool s1, .bool s2] _ HCE.out Try.underlying64 rfl (by kernel_rfl) ?_)
      have hH := holds_new #[Value.int .i64 lid, .int .i64 asid, .int .u64 (vp : Nat), .int .u64 (ip : Nat), .int .i64 fr, .bool p0, .bool p1, .bool p2, .bool s0, .bool s1, .bool s2] 64 HHR.out
      have hO := old_alloc (old_refl wr) (.cells #[Value.int .i64 lid, .int .i64 asid, .int .u64 (vp : Nat), .int .u64 (ip : Nat), .int .i64 fr, .bool p0, .bool p1, .bool p2, .bool s0, .bool s1, .bool s2] 64)
      generalize wr.alloc (.cells #[Value.int .i64 lid, .int .i64 asid, .int .u64 (vp : Nat), .int .u64 (ip : Nat), .int .i64 fr, .bool p0, .bool p1, .bool p2, .bool s0, .bool s1, .bool s2] 64) = Y at *
      generalize wr.heap.size = nb at *
      have HY := Lib.hid (And.intro hH hO)
      clear HCE HHR hO hH
      go_cut [15, 124] (fun s15 _ x => ∃ wx, wx = x ∧ s15 = .bool (apB K ⟨gid, gas, gvp, gip, gfr, a0, a1, a2, a3, a4, a5⟩ ⟨lid, asid, vp, ip, fr, p0, p1, p2, s0, s1, s2⟩) ∧ Old Y wx)
      case first =>
        obtain ⟨g0, g1', g2', _⟩ := HY.out.1
        obtain ⟨k1, _, _⟩ := of_block g1'
        obtain ⟨k2, _, _⟩ := of_block g2'
        clear g0 g1' g2'
        obtain ⟨hand, hK4⟩ := HK.out
        by_cases hid : lid = gid
        · have hb : (lid == gid) = true := by simp [hid]
          rcases hK4 with rfl | rfl | rfl | rfl
          all_goals
            go_wp2
            go_meet
            case rel => exact ⟨_, rfl, by (first | rfl | (simp [apB, idB, asidB, pageB, frameB, hid])), old_alloc (old_refl _) _⟩
        · have hb : (lid == gid) = false := by simp [hid]
          rcases hK4 with rfl | rfl | rfl | rfl
          all_goals
            go_wp2
            go_meet
            case rel => exact ⟨_, rfl, by (first | rfl | (simp [apB, idB, asidB, pageB, frameB, hid])), old_alloc (old_refl _) _⟩
      case rest =>
      obtain ⟨x, rfl, rfl, hO⟩ := hcut
      have hx := old_then HY.out.2 hO
      have hH := holds_old HY.out.1 hO
      have hox := own_old HR.out.1 hx
      have hoz := old_then HR.out.2.1 hx
      have HX := Lib.hid (And.intro hox hoz)
      obtain ⟨g0, g1', g2', _⟩ := hH
      obtain ⟨k1, _, _⟩ := of_block g1'
      clear g0 g1' g2' hx
      have hdr := drop_get _ _ _ HI.out.2
      have HD := Lib.hid hdr
      clear hdr hO
      cases hB : apB K ⟨gid, gas, gvp, gip, gfr, a0, a1, a2, a3, a4, a5⟩ ⟨lid, asid, vp, ip, fr, p0, p1, p2, s0, s1, s2⟩
      case true =>
        have HB := Lib.hid hB
        clear hB hox hoz
        go_wp2
        go_roundw
        case rel =>
          refine ⟨i + 1, L2, HI.out.1, by simp, HX.out.1, HX.out.2, ?_⟩
          rw [← HR.out.2.2, HD.out]
          simp [HB.out]
        case measure => have := HI.out.1; (simp [intOf]) <;> omega
      case false =>
        have HB := Lib.hid hB
        obtain ⟨v', w5, hrun, hown5, hgr⟩ := line_append z.heap.size x _ L2 ⟨lid, asid, vp, ip, fr, p0, p1, p2, s0, s1, s2⟩ HL2.out hoz.size hox
        have HA := Lib.hid (And.intro hown5 hgr)
        clear hown5 hgr hB hox hoz
        go_wp2_with (at_builtin; refine wpList_append_run rfl _ _ 59 rfl _ _ rfl rfl _ _ hrun ?_; clear hrun)
        go_roundw
        case rel =>
          have hO6 : Old z w5 := Only.below ((Only.of_below HX.out.2).mono (G := fun b => z.heap.size ≤ b) (fun _ _ f => f.elim) |>.trans HA.out.2) (Nat.le_refl _)
          refine ⟨i + 1, L2 ++ [⟨lid, asid, vp, ip, fr, p0, p1, p2, s0, s1, s2⟩], HI.out.1, by simp, HA.out.1, hO6, ?_⟩
          rw [← HR.out.2.2, HD.out]
          simp [HB.out]
        case measure => have := HI.out.1; (simp [intOf]) <;> omega
end Go.Proofs.Ytfiofjalpaeohaa
