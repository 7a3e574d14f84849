/- The document's TLB of layer 15: Fill. -/
import Derived.Test.YtfiofjalpaeohaaRefTlb
import Derived.Deep.CutBlock
namespace Go.Proofs.Ytfiofjalpaeohaa
set_option linter.unusedVariables false
set_option linter.unusedSimpArgs false
open Go.RowKit

theorem wrap_pred (j : Nat) (h : j ≤ 1000) : wrap64 ((j : Int) - 1) = (j : Int) - 1 := IntWalk.wrap64_in _ (by omega)
section
variable {w : World} {q L n wy N : Nat} {F : List Pl}
set_option maxHeartbeats 16000000 in
set_option maxRecDepth 100000 in
theorem refFill_calls (h : IsRT w q L n wy N F) (l : Ln) (way : Int) {t : List Pl} {i0 : Nat} (hi : i0 = l.vp % n) (htl : t.length = wy) (ht : ∀ (j : Nat) (p : Pl), t[j]? = some p → F[i0 * wy + j]? = some p)
    (K : Nat) (hK : fillK F t i0 l way wy = (K : Int)) (p : Pl) (hp : F[K]? = some p) :
    Calls Try.prog 42 #[.pointer (some ⟨q, 0, none⟩), .agg l.cells.toArray, .int .i64 way] w (fun e y => e = .returned (.tuple #[.agg (if p.on then p.l else ln0).cells.toArray, .bool p.on]) ∧
      IsRT y q L n wy N (F.set K ⟨true, l⟩) ∧ Only (fun z => z = L) w y) := by
  obtain ⟨m, hm⟩ : ∃ m, m = i0 * wy := ⟨_, rfl⟩
  rw [← hm] at ht
  obtain ⟨a0, ha0⟩ : ∃ a0, atP l.id l.asid l.vp F 0 = a0 := ⟨_, rfl⟩
  obtain ⟨f0, hf0⟩ : ∃ f0, freeP t 0 = f0 := ⟨_, rfl⟩
  unfold fillK at hK
  rw [ha0, hf0, ← hm] at hK
  have hat := fun x (hx : Old w x) => refAt_calls (rt_old h hx) l.id l.asid l.vp
  rw [ha0] at hat
  have hwj := wayJ_eq way wy h.h2.1 h.h2.2
  have hmb : m + wy ≤ N := by
    have h1 : i0 < n := by rw [hi]; exact Nat.mod_lt _ (by have := h.h1.1; omega)
    have h2 : (i0 + 1) * wy ≤ n * wy := Nat.mul_le_mul_right _ h1
    rw [h.hN, hm]; rw [Nat.add_mul] at h2; omega
  have ha1 : a0 = -1 ∨ (0 ≤ a0 ∧ a0 < N) := by
    rcases atP_cases l.id l.asid l.vp F 0 with ⟨a, _⟩ | ⟨j, r, a, b, _⟩
    · exact .inl (by rw [← ha0]; exact a)
    · have := (List.getElem?_eq_some_iff.1 b).1
      have := h.len
      exact .inr (by rw [← ha0, a]; omega)
  have hf1 : f0 = -1 ∨ (0 ≤ f0 ∧ f0 < wy) := by
    rcases freeP_cases t 0 with ⟨a, _⟩ | ⟨j, r, a, b, _⟩
    · exact .inl (by rw [← hf0]; exact a)
    · have := (List.getElem?_eq_some_iff.1 b).1
      exact .inr (by rw [← hf0, a]; omega)
  have hcell := fun x (hx : Old w x) {i : Nat} {r : Pl} (hr : F[i]? = some r) => rt_cell (rt_old h hx) hr
  have hKN : K < N := by rw [← h.len]; exact (List.getElem?_eq_some_iff.1 hp).1
  have n1 : (1 : Int) ≤ n := by have := h.h1.1; omega
  have n64 : (n : Int) ≤ 64 := by have := h.h1.2; omega
  have w1 : (1 : Int) ≤ wy := by have := h.h2.1; omega
  have w8 : (wy : Int) ≤ 8 := by have := h.h2.2; omega
  have n512 : (N : Int) ≤ 512 := by have := h.h3.2; omega
  have hn0 : ¬ (n : Int) = 0 := by omega
  have hnw : IntKind.u64.wrap (n : Int) = n := IntWalk.u64_in _ (by omega)
  have hil : i0 < n := by rw [hi]; exact Nat.mod_lt _ (by omega)
  have hmod : (l.vp : Int) % (n : Int) = (i0 : Int) := by rw [hi]; rfl
  have e1 : wrap64 ((i0 : Int) * (wy : Int)) = (m : Int) := by
    rw [hm, ← Int.natCast_mul, ← hm]; exact wrap_small m (by omega)
  have H := Lib.hid h
  have HAt := Lib.hid hat
  have HP := Lib.hid (And.intro hK (And.intro hp (And.intro hmb (And.intro hKN (And.intro htl (And.intro ht hf0))))))
  have HA1 := Lib.hid (And.intro ha1 hf1)
  have HWJ := Lib.hid hwj
  have HC := Lib.hid @hcell
  have HE := Lib.hid e1
  have HI := Lib.hid (And.intro hmod (And.intro hnw (And.intro hn0 hil)))
  clear h hat hK hp hmb hKN htl ht hf0 ha0 ha1 hf1 hwj hcell e1 hmod hnw hn0 hil hi hm
  have HLC : Hid (l.cells = l.cells) := Lib.hid rfl
  obtain ⟨lid, asid, vp, ip, fr, p0, p1, p2, s0, s1, s2⟩ := l
  change Calls _ _ #[_, .agg #[.int .i64 lid, .int .i64 asid, .int .u64 (vp : Nat), .int .u64 (ip : Nat), .int .i64 fr, .bool p0, .bool p1, .bool p2, .bool s0, .bool s1, .bool s2], _] w _
  go_enter Try.func42, Try.ntmps42
  go_upto_region 1 with (fail)
  have hH := holds_new #[.int .i64 0, .int .i64 0, .int .u64 0, .int .u64 0, .int .i64 0, .bool false, .bool false, .bool false, .bool false, .bool false, .bool false] 64 (holds_new #[.int .i64 lid, .int .i64 asid, .int .u64 (vp : Nat), .int .u64 (ip : Nat), .int .i64 fr, .bool p0, .bool p1, .bool p2, .bool s0, .bool s1, .bool s2] 64 (holds_nil w))
  rw [World.size_alloc] at hH
  generalize (w.alloc (.cells #[.int .i64 lid, .int .i64 asid, .int .u64 (vp : Nat), .int .u64 (ip : Nat), .int .i64 fr, .bool p0, .bool p1, .bool p2, .bool s0, .bool s1, .bool s2] 64)).alloc (.cells #[.int .i64 0, .int .i64 0, .int .u64 0, .int .u64 0, .int .i64 0, .bool false, .bool false, .bool false, .bool false, .bool false, .bool false] 64) = W at *
  obtain ⟨lb, hlb⟩ : ∃ lb, lb = w.heap.size := ⟨_, rfl⟩
  obtain ⟨rb, hrb⟩ : ∃ rb, rb = w.heap.size + 1 := ⟨_, rfl⟩
  rw [← hrb, ← hlb] at hH ⊢
  have HB := Lib.hid (And.intro hlb hrb)
  clear hlb hrb
  obtain ⟨g0, g1, g2, _⟩ := id hH
  obtain ⟨k2, f2, z2⟩ := of_block g2
  have hc := HAt.out _ hH.1
  have HH := Lib.hid hH
  clear g0 g1 g2 hH
  go_wp2_with fail
  (with_reducible refine hc.mono ?_)
  rintro e x2 ⟨rfl, hO⟩
  have hH := holds_old HH.out hO
  have HH := Lib.hid hH
  clear hc hO hH k2 f2 z2
  go_upto_region 2 with (fail)
  refine wp_region_walked (S := Old x2) (by kernel_rfl) (by kernel_rfl) (old_drew (old_refl _)) ?_
  repeat (apply walked_cons; (first | exact gives_and rfl rfl rfl rfl | exact gives_or rfl rfl rfl rfl | (focus (intro wS hS; obtain ⟨q0, r0, v0⟩ := of_block (rt_old H.out (old_then HH.out.1 hS)).hq; obtain ⟨q1, r1, v1⟩ := of_block (holds_old HH.out hS).2.2.1; obtain ⟨hmod, hnw, hn0, hil⟩ := HI.out; go_wp2_with ((fail)); ((exact ⟨rfl, rfl, hS⟩)); done)) | (focus (apply gives_guard; (focus (first | exact wanted_yes rfl rfl rfl | exact wanted_no rfl rfl rfl | exact wanted_yes2 rfl rfl rfl | exact wanted_no2 rfl rfl rfl)); (focus (intro hx9; (try simp only [Bool.not_eq_true', Bool.and_eq_true, Bool.not_not] at hx9); (try obtain ⟨hx9, hy9⟩ := hx9); (try subst hy9); (try subst hx9); (first | exact gives_and rfl rfl rfl rfl | exact gives_or rfl rfl rfl rfl | (intro wS hS; obtain ⟨q0, r0, v0⟩ := of_block (rt_old H.out (old_then HH.out.1 hS)).hq; obtain ⟨q1, r1, v1⟩ := of_block (holds_old HH.out hS).2.2.1; obtain ⟨hmod, hnw, hn0, hil⟩ := HI.out; go_wp2_with ((fail)); ((exact ⟨rfl, rfl, hS⟩)); done))))))); rfl; (try simp only [Act.put, List.setIfInBounds_toArray, List.set_cons_succ, List.set_cons_zero]))
  apply walked_nil
  intro x3 hS
  have HH := Lib.hid (holds_old HH.out hS)
  clear hS
  obtain ⟨c0, d0, u0⟩ := of_block (rt_old H.out HH.out.1).hq
  obtain ⟨g0, g1, g2, _⟩ := id HH.out
  obtain ⟨k2, f2, z2⟩ := of_block g2
  clear g0 g1 g2 f2 d0
  obtain ⟨G, hG⟩ : ∃ G : Int, G = if a0 = -1 then (if f0 = -1 then -1 else (m : Int) + f0) else a0 := ⟨_, rfl⟩
  have hGb : G = -1 ∨ (0 ≤ G ∧ G < N) := by
    obtain ⟨h1, h2⟩ := HA1.out
    have h3 := HP.out.2.2.1
    rw [hG]
    split
    · split
      · exact .inl rfl
      · exact .inr (by omega)
    · exact .inr (by omega)
  have hGK : (K : Int) = if G = -1 then (m : Int) + (wayJ way wy : Nat) else G := by
    obtain ⟨h1, h2⟩ := HA1.out
    rw [← HP.out.1, hG]
    by_cases ha : a0 = -1
    · rw [if_pos ha, if_pos ha]
      by_cases hf : f0 = -1
      · rw [if_pos hf, if_pos hf, if_pos rfl]; simp
      · rw [if_neg hf, if_neg hf, if_neg (by omega)]
    · rw [if_neg ha, if_neg ha, if_neg ha]
  have HG := Lib.hid (And.intro hG (And.intro hGb hGK))
  clear hG hGb hGK
  go_upto_block 0 with (fail)
  go_cut [8] (fun s8 wx => ∃ z, z = wx ∧ s8 = .int .i64 G ∧ Old x3 z)
  case first =>
    go_wp2
    go_loopw [8, 10] (fun s8 s10 wx => ∃ (k : Nat) (z : Int), k ≤ wy ∧ s10 = .int .i64 ((k : Int) - 1) ∧ s8 = .int .i64 z ∧ Old x3 wx ∧ ((a0 ≠ -1 ∧ z = a0) ∨ (a0 = -1 ∧ z = (if freeP (t.drop k) k = -1 then -1 else (m : Int) + freeP (t.drop k) k)))) (fun _ s10 _ => (intOf s10 + 1).toNat)
    case atStart =>
      refine ⟨wy, a0, by omega, rfl, rfl, old_refl _, ?_⟩
      by_cases ha : a0 = -1
      · refine .inr ⟨ha, ?_⟩
        rw [List.drop_eq_nil_of_le (by rw [HP.out.2.2.2.2.1]; omega)]
        exact ha
      · exact .inl ⟨ha, rfl⟩
    case round =>
      clear c0 u0 k2 z2
      obtain ⟨k, z, hk, rfl, rfl, hO, hz⟩ := hrel
      have hHr := holds_old HH.out hO
      have hTr := rt_old H.out hHr.1
      obtain ⟨c0, -, u0⟩ := of_block hTr.hq
      obtain ⟨k2, -, z2⟩ := of_block hHr.2.2.1
      have hc := HAt.out _ hHr.1
      have HO := Lib.hid (And.intro hO hHr)
      clear hO hHr hTr
      rcases Nat.eq_zero_or_pos k with hk0 | hk0
      · subst hk0
        have hzG : z = G := by
          rw [HG.out.1]
          rcases hz with ⟨h1, h2⟩ | ⟨h1, h2⟩
          · rw [if_neg h1, h2]
          · rw [if_pos h1, h2, List.drop_zero, HP.out.2.2.2.2.2.2]
        subst hzG
        clear hz hc hk
        go_wp2
        go_meet
        case rel => exact ⟨_, rfl, rfl, HO.out.1⟩
      · obtain ⟨j, rfl⟩ : ∃ j, k = j + 1 := ⟨k - 1, by omega⟩
        have hjs : (((j + 1 : Nat) : Nat) : Int) - 1 = (j : Int) := by omega
        rw [hjs]
        have hjw : j < wy := hk
        have hj0 : (0 : Int) ≤ (j : Int) := by omega
        have hjm : wrap64 ((j : Int) - 1) = (j : Int) - 1 := wrap_pred j (by omega)
        have HJ := Lib.hid hjw
        have HJM := Lib.hid hjm
        have HZ := Lib.hid hz
        clear hk hk0 hjs hjw hz hjm
        go_wp2_with fail
        (with_reducible refine hc.mono ?_)
        rintro e x5 ⟨rfl, hO5⟩
        have hHr := holds_old HO.out.2 hO5
        have HO5 := Lib.hid (And.intro (old_then HO.out.1 hO5) hHr)
        clear hc hO5 hHr c0 u0 k2 z2
        by_cases ha : a0 = -1
        · obtain ⟨r, hr⟩ : ∃ r, t[j]? = some r := ⟨_, List.getElem?_eq_getElem (by rw [HP.out.2.2.2.2.1]; exact HJ.out)⟩
          have hrF := HP.out.2.2.2.2.2.1 j r hr
          have hfree : freeP (t.drop j) j = (if r.on then freeP (t.drop (j + 1)) (j + 1) else (j : Int)) := by
            rw [drop_get _ _ _ hr]; rfl
          obtain ⟨M, hM⟩ : ∃ M, M = m + j := ⟨_, rfl⟩
          rw [← hM] at hrF
          have hMN : M < N := by have h1 := HP.out.2.2.1; have h2 := HJ.out; omega
          have hMi : (m : Int) + (j : Int) = (M : Int) := by rw [hM]; simp
          have e2 : wrap64 ((m : Int) + (j : Int)) = (M : Int) := by rw [hMi]; exact wrap_small M (by omega)
          have i1 : (M : Int) < N := by omega
          have e1 := HE.out
          obtain ⟨on', rl⟩ := r
          have HR := Lib.hid (And.intro hrF (And.intro hfree (And.intro hMi ha)))
          clear hr hrF hfree hM hMN hMi
          subst ha
          go_upto_region 6 with (fail)
          refine wp_region_walked (S := Old x5) (by kernel_rfl) (by kernel_rfl) (old_drew (old_refl _)) ?_
          repeat (apply walked_cons; (first | exact gives_and rfl rfl rfl rfl | exact gives_or rfl rfl rfl rfl | (focus (intro wS hS; have con : wS.cell? ⟨L, M * 12, none⟩ = some (.bool on') := HC.out wS (old_then HO5.out.2.1 hS) HR.out.1 0 _ rfl; obtain ⟨q0, r0, v0⟩ := of_block (rt_old H.out (old_then HO5.out.2.1 hS)).hq; go_wp2_with ((fail)); ((exact ⟨rfl, rfl, hS⟩)); done)) | (focus (apply gives_guard; (focus (first | exact wanted_yes rfl rfl rfl | exact wanted_no rfl rfl rfl | exact wanted_yes2 rfl rfl rfl | exact wanted_no2 rfl rfl rfl)); (focus (intro hx9; (try simp only [Bool.not_eq_true', Bool.and_eq_true, Bool.not_not] at hx9); (try obtain ⟨hx9, hy9⟩ := hx9); (try subst hy9); (try subst hx9); (first | exact gives_and rfl rfl rfl rfl | exact gives_or rfl rfl rfl rfl | (intro wS hS; have con : wS.cell? ⟨L, M * 12, none⟩ = some (.bool on') := HC.out wS (old_then HO5.out.2.1 hS) HR.out.1 0 _ rfl; obtain ⟨q0, r0, v0⟩ := of_block (rt_old H.out (old_then HO5.out.2.1 hS)).hq; go_wp2_with ((fail)); ((exact ⟨rfl, rfl, hS⟩)); done))))))); rfl; (try simp only [Act.put, List.setIfInBounds_toArray, List.set_cons_succ, List.set_cons_zero]))
          apply walked_nil
          intro x6 hS
          have HO6 := Lib.hid (And.intro (old_then HO5.out.1 hS) (holds_old HO5.out.2 hS))
          clear hS
          obtain ⟨c0, -, u0⟩ := of_block (rt_old H.out HO6.out.2.1).hq
          cases on' with
          | false =>
            go_wp2
            go_roundw
            case rel =>
              refine ⟨j, (M : Int), by have := HJ.out; omega, congrArg _ HJM.out, congrArg _ e2, HO6.out.1, .inr ⟨by first | rfl | trivial, ?_⟩⟩
              have hf := HR.out.2.1
              rw [if_neg (by simp)] at hf
              rw [hf, if_neg (by omega), HR.out.2.2.1]
            case measure =>
              (simp only [intOf, HJM.out]) <;> omega
          | true =>
            go_wp2
            go_roundw
            case rel =>
              refine ⟨j, z, by have := HJ.out; omega, congrArg _ HJM.out, by first | rfl | trivial, HO6.out.1, .inr ⟨by first | rfl | trivial, ?_⟩⟩
              have hf := HR.out.2.1
              rw [if_pos rfl] at hf
              rcases HZ.out with ⟨h1, h2⟩ | ⟨h1, h2⟩
              · exact absurd rfl h1
              · rw [hf]; exact h2
            case measure =>
              (simp only [intOf, HJM.out]) <;> omega
        · have hzG : z = G := by
            rw [HG.out.1, if_neg ha]
            rcases HZ.out with ⟨h1, h2⟩ | ⟨h1, h2⟩
            · exact h2
            · exact absurd h1 ha
          have ha0 : 0 ≤ a0 := by rcases HA1.out.1 with h | h <;> omega
          subst hzG
          clear ha
          go_wp2
          go_meet
          case rel => exact ⟨_, rfl, rfl, HO5.out.1⟩
  case rest =>
  obtain ⟨x4, rfl, rfl, hO4⟩ := hcut
  have HO4 := Lib.hid (And.intro hO4 (holds_old HH.out hO4))
  clear hO4 c0 u0 k2 z2
  go_upto_if 74 with (fail)
  go_cut [8] (fun s8 wx => ∃ z, z = wx ∧ s8 = .int .i64 (K : Nat) ∧ Old x4 z)
  case first =>
    by_cases hG1 : G = -1
    · have hKm := HG.out.2.2
      rw [if_pos hG1] at hKm
      obtain ⟨w1', w2', w3'⟩ := HWJ.out
      have e2 : wrap64 ((m : Int) + ((wayJ way wy : Nat) : Int)) = (K : Int) := by
        rw [← hKm]; exact wrap_small K (by have := HP.out.2.2.2.1; have := H.out.h3.2; omega)
      have e1 := HE.out
      have hn0 : ¬ (wy : Int) = 0 := by omega
      clear HG
      subst hG1
      clear hKm w2' w3'
      go_upto_region 9 with (fail)
      refine wp_region_walked (S := Old x4) (by kernel_rfl) (by kernel_rfl) (old_drew (old_refl _)) ?_
      apply walked_cons
      · intro wS hS; obtain ⟨q0, -, -⟩ := of_block (rt_old H.out (old_then HO4.out.2.1 hS)).hq; have HS9 := Lib.hid hS; clear hS; go_wp2; exact ⟨rfl, rfl, HS9.out⟩
      · rfl
      (try simp only [Act.put, List.setIfInBounds_toArray, List.set_cons_succ, List.set_cons_zero])
      apply walked_cons
      · intro wS hS; obtain ⟨q0, -, -⟩ := of_block (rt_old H.out (old_then HO4.out.2.1 hS)).hq; have HS9 := Lib.hid hS; clear hS; go_wp2; exact ⟨rfl, rfl, HS9.out⟩
      · rfl
      (try simp only [Act.put, List.setIfInBounds_toArray, List.set_cons_succ, List.set_cons_zero])
      apply walked_cons
      · intro wS hS; obtain ⟨q0, -, -⟩ := of_block (rt_old H.out (old_then HO4.out.2.1 hS)).hq; have HS9 := Lib.hid hS; clear hS; go_wp2; exact ⟨rfl, rfl, HS9.out⟩
      · rfl
      (try simp only [Act.put, List.setIfInBounds_toArray, List.set_cons_succ, List.set_cons_zero])
      apply walked_cons
      · intro wS hS; obtain ⟨q0, -, -⟩ := of_block (rt_old H.out (old_then HO4.out.2.1 hS)).hq; have HS9 := Lib.hid hS; clear hS; go_wp2; exact ⟨rfl, rfl, HS9.out⟩
      · rfl
      (try simp only [Act.put, List.setIfInBounds_toArray, List.set_cons_succ, List.set_cons_zero])
      apply walked_cons
      · intro wS hS; obtain ⟨q0, -, -⟩ := of_block (rt_old H.out (old_then HO4.out.2.1 hS)).hq; have HS9 := Lib.hid hS; clear hS; go_wp2; exact ⟨rfl, rfl, HS9.out⟩
      · rfl
      (try simp only [Act.put, List.setIfInBounds_toArray, List.set_cons_succ, List.set_cons_zero])
      apply walked_cons
      · intro wS hS; obtain ⟨q0, -, -⟩ := of_block (rt_old H.out (old_then HO4.out.2.1 hS)).hq; have HS9 := Lib.hid hS; clear hS; go_wp2; exact ⟨rfl, rfl, HS9.out⟩
      · rfl
      (try simp only [Act.put, List.setIfInBounds_toArray, List.set_cons_succ, List.set_cons_zero])
      apply walked_cons
      · intro wS hS; obtain ⟨q0, -, -⟩ := of_block (rt_old H.out (old_then HO4.out.2.1 hS)).hq; have HS9 := Lib.hid hS; clear hS; go_wp2; exact ⟨rfl, rfl, HS9.out⟩
      · rfl
      (try simp only [Act.put, List.setIfInBounds_toArray, List.set_cons_succ, List.set_cons_zero])
      apply walked_cons
      · intro wS hS; obtain ⟨q0, -, -⟩ := of_block (rt_old H.out (old_then HO4.out.2.1 hS)).hq; have HS9 := Lib.hid hS; clear hS; go_wp2; exact ⟨rfl, rfl, HS9.out⟩
      · rfl
      (try simp only [Act.put, List.setIfInBounds_toArray, List.set_cons_succ, List.set_cons_zero])
      apply walked_cons
      · intro wS hS; obtain ⟨q0, -, -⟩ := of_block (rt_old H.out (old_then HO4.out.2.1 hS)).hq; have HS9 := Lib.hid hS; clear hS; go_wp2; exact ⟨rfl, rfl, HS9.out⟩
      · rfl
      (try simp only [Act.put, List.setIfInBounds_toArray, List.set_cons_succ, List.set_cons_zero])
      apply walked_cons
      · intro wS hS; obtain ⟨q0, -, -⟩ := of_block (rt_old H.out (old_then HO4.out.2.1 hS)).hq; have HS9 := Lib.hid hS; clear hS; go_wp2; exact ⟨rfl, rfl, HS9.out⟩
      · rfl
      (try simp only [Act.put, List.setIfInBounds_toArray, List.set_cons_succ, List.set_cons_zero])
      apply walked_cons
      · intro wS hS; obtain ⟨q0, -, -⟩ := of_block (rt_old H.out (old_then HO4.out.2.1 hS)).hq; have HS9 := Lib.hid hS; clear hS; go_wp2; exact ⟨rfl, rfl, HS9.out⟩
      · rfl
      (try simp only [Act.put, List.setIfInBounds_toArray, List.set_cons_succ, List.set_cons_zero])
      apply walked_cons
      · intro wS hS; obtain ⟨q0, -, -⟩ := of_block (rt_old H.out (old_then HO4.out.2.1 hS)).hq; have HS9 := Lib.hid hS; clear hS; go_wp2; exact ⟨rfl, rfl, HS9.out⟩
      · rfl
      (try simp only [Act.put, List.setIfInBounds_toArray, List.set_cons_succ, List.set_cons_zero])
      apply walked_cons
      · intro wS hS; obtain ⟨q0, -, -⟩ := of_block (rt_old H.out (old_then HO4.out.2.1 hS)).hq; have HS9 := Lib.hid hS; clear hS; go_wp2; exact ⟨rfl, rfl, HS9.out⟩
      · rfl
      (try simp only [Act.put, List.setIfInBounds_toArray, List.set_cons_succ, List.set_cons_zero])
      apply walked_cons
      · intro wS hS; obtain ⟨q0, -, -⟩ := of_block (rt_old H.out (old_then HO4.out.2.1 hS)).hq; have HS9 := Lib.hid hS; clear hS; go_wp2; exact ⟨rfl, rfl, HS9.out⟩
      · rfl
      (try simp only [Act.put, List.setIfInBounds_toArray, List.set_cons_succ, List.set_cons_zero])
      apply walked_cons
      · intro wS hS; obtain ⟨q0, -, -⟩ := of_block (rt_old H.out (old_then HO4.out.2.1 hS)).hq; have HS9 := Lib.hid hS; clear hS; go_wp2; exact ⟨rfl, rfl, HS9.out⟩
      · rfl
      (try simp only [Act.put, List.setIfInBounds_toArray, List.set_cons_succ, List.set_cons_zero])
      apply walked_cons
      · intro wS hS; obtain ⟨q0, -, -⟩ := of_block (rt_old H.out (old_then HO4.out.2.1 hS)).hq; have HS9 := Lib.hid hS; clear hS; go_wp2; exact ⟨rfl, rfl, HS9.out⟩
      · rfl
      (try simp only [Act.put, List.setIfInBounds_toArray, List.set_cons_succ, List.set_cons_zero])
      apply walked_cons
      · intro wS hS; obtain ⟨q0, -, -⟩ := of_block (rt_old H.out (old_then HO4.out.2.1 hS)).hq; have HS9 := Lib.hid hS; clear hS; go_wp2; exact ⟨rfl, rfl, HS9.out⟩
      · rfl
      (try simp only [Act.put, List.setIfInBounds_toArray, List.set_cons_succ, List.set_cons_zero])
      apply walked_cons
      · intro wS hS; obtain ⟨q0, -, -⟩ := of_block (rt_old H.out (old_then HO4.out.2.1 hS)).hq; have HS9 := Lib.hid hS; clear hS; go_wp2; exact ⟨rfl, rfl, HS9.out⟩
      · rfl
      (try simp only [Act.put, List.setIfInBounds_toArray, List.set_cons_succ, List.set_cons_zero])
      apply walked_cons
      · intro wS hS; obtain ⟨q0, -, -⟩ := of_block (rt_old H.out (old_then HO4.out.2.1 hS)).hq; have HS9 := Lib.hid hS; clear hS; go_wp2; exact ⟨rfl, rfl, HS9.out⟩
      · rfl
      (try simp only [Act.put, List.setIfInBounds_toArray, List.set_cons_succ, List.set_cons_zero])
      apply walked_cons
      · intro wS hS; obtain ⟨q0, -, -⟩ := of_block (rt_old H.out (old_then HO4.out.2.1 hS)).hq; have HS9 := Lib.hid hS; clear hS; go_wp2; exact ⟨rfl, rfl, HS9.out⟩
      · rfl
      (try simp only [Act.put, List.setIfInBounds_toArray, List.set_cons_succ, List.set_cons_zero])
      apply walked_cons
      · intro wS hS; obtain ⟨q0, -, -⟩ := of_block (rt_old H.out (old_then HO4.out.2.1 hS)).hq; have HS9 := Lib.hid hS; clear hS; go_wp2; exact ⟨rfl, rfl, HS9.out⟩
      · rfl
      (try simp only [Act.put, List.setIfInBounds_toArray, List.set_cons_succ, List.set_cons_zero])
      apply walked_cons
      · intro wS hS; obtain ⟨q0, -, -⟩ := of_block (rt_old H.out (old_then HO4.out.2.1 hS)).hq; have HS9 := Lib.hid hS; clear hS; go_wp2; exact ⟨rfl, rfl, HS9.out⟩
      · rfl
      (try simp only [Act.put, List.setIfInBounds_toArray, List.set_cons_succ, List.set_cons_zero])
      apply walked_cons
      · intro wS hS; obtain ⟨q0, -, -⟩ := of_block (rt_old H.out (old_then HO4.out.2.1 hS)).hq; have HS9 := Lib.hid hS; clear hS; go_wp2; exact ⟨rfl, rfl, HS9.out⟩
      · rfl
      (try simp only [Act.put, List.setIfInBounds_toArray, List.set_cons_succ, List.set_cons_zero])
      apply walked_cons
      · intro wS hS; obtain ⟨q0, -, -⟩ := of_block (rt_old H.out (old_then HO4.out.2.1 hS)).hq; have HS9 := Lib.hid hS; clear hS; go_wp2; exact ⟨rfl, rfl, HS9.out⟩
      · rfl
      (try simp only [Act.put, List.setIfInBounds_toArray, List.set_cons_succ, List.set_cons_zero])
      apply walked_nil
      intro x6 hS
      have HS6 := Lib.hid hS
      clear hS
      go_wp2
      go_meet
      case rel => exact ⟨_, rfl, congrArg _ e2, HS6.out⟩
    · have hKm := HG.out.2.2
      rw [if_neg hG1] at hKm
      have hG0 : 0 ≤ G := by rcases HG.out.2.1 with h | h <;> omega
      clear hG1
      go_wp2
      go_meet
      case rel => exact ⟨_, rfl, by rw [hKm], old_refl _⟩
  case rest =>
  obtain ⟨x5, rfl, rfl, hO5⟩ := hcut
  have hHr := holds_old HO4.out.2 hO5
  obtain ⟨c0, -, u0⟩ := of_block (rt_old H.out hHr.1).hq
  have hcl := HC.out x5 hHr.1 HP.out.2.1
  have k1 : (K : Int) < N := by have := HP.out.2.2.2.1; omega
  obtain ⟨on, qid, qas, qvp, qip, qfr, q0, q1, q2, r0, r1, r2⟩ := p
  change ∀ (c : Nat) (v : Value), [Value.bool on, .int .i64 qid, .int .i64 qas, .int .u64 (qvp : Nat), .int .u64 (qip : Nat), .int .i64 qfr, .bool q0, .bool q1, .bool q2, .bool r0, .bool r1, .bool r2][c]? = some v → _ at hcl
  have HCL := Lib.hid hcl
  have HO5 := Lib.hid hHr
  clear hcl hHr hO5
  go_upto_region 11 with (refine wpList_load_at rfl 129 _ rfl L (K * 12) rfl _ _ HCL.out Try.underlying129 rfl (by kernel_rfl) ?_)
  have hxb := new_block x5 (.cells #[Value.bool on, .int .i64 qid, .int .i64 qas, .int .u64 (qvp : Nat), .int .u64 (qip : Nat), .int .i64 qfr, .bool q0, .bool q1, .bool q2, .bool r0, .bool r1, .bool r2] 129)
  have hO6 := old_alloc (old_refl x5) (.cells #[Value.bool on, .int .i64 qid, .int .i64 qas, .int .u64 (qvp : Nat), .int .u64 (qip : Nat), .int .i64 qfr, .bool q0, .bool q1, .bool q2, .bool r0, .bool r1, .bool r2] 129)
  generalize x5.alloc (.cells #[Value.bool on, .int .i64 qid, .int .i64 qas, .int .u64 (qvp : Nat), .int .u64 (qip : Nat), .int .i64 qfr, .bool q0, .bool q1, .bool q2, .bool r0, .bool r1, .bool r2] 129) = x6 at *
  obtain ⟨nb, hnb⟩ : ∃ nb, nb = x5.heap.size := ⟨_, rfl⟩
  rw [← hnb] at hxb ⊢
  have hH6 := holds_old HO5.out hO6
  have hT6 := rt_old H.out hH6.1
  have HN := Lib.hid (And.intro hxb (And.intro hH6 (And.intro hT6 (show lb < nb ∧ rb < nb ∧ L < nb ∧ q < nb by
    have h1 := lt_of_block HO5.out.2.1; have h2 := lt_of_block HO5.out.2.2.1; have h3 := lt_of_block (rt_old H.out HO5.out.1).hq; have h4 := lt_of_block (rt_old H.out HO5.out.1).hL; omega))))
  clear hxb hO6 hnb hH6 hT6 c0 u0 HCL
  obtain ⟨c0, -, u0⟩ := of_block HN.out.2.2.1.hq
  have hlc : ∀ (c : Nat) (v : Value), [Value.int .i64 lid, .int .i64 asid, .int .u64 (vp : Nat), .int .u64 (ip : Nat), .int .i64 fr, .bool p0, .bool p1, .bool p2, .bool s0, .bool s1, .bool s2][c]? = some v → x6.drew.cell? ⟨lb, 0 + c, none⟩ = some v := fun c v hv => by
    rw [Nat.zero_add, cell_of (w := x6.drew) HN.out.2.1.2.2.1]
    simpa using hv
  have HLC2 := Lib.hid hlc
  have c1 : x6.drew.cell? ⟨q, 2, none⟩ = some (.slice (some ⟨L, 0, none⟩) N N) := c0 2
  clear hlc c0
  refine wp_region_tail (S := Is x6.drew) 8 (by kernel_rfl) (by kernel_rfl) (by kernel_rfl) (by decide) rfl ?_
  repeat (apply walked_cons; (first | exact gives_and rfl rfl rfl rfl | exact gives_or rfl rfl rfl rfl | (focus (intro wS hS; cases hS; go_wp2_with (refine wpList_load_at rfl 64 _ rfl lb 0 rfl _ _ HLC2.out Try.underlying64 rfl (by kernel_rfl) ?_); exact ⟨rfl, rfl, rfl⟩; done)) | (focus (apply gives_guard; (focus (first | exact wanted_yes rfl rfl rfl | exact wanted_no rfl rfl rfl | exact wanted_yes2 rfl rfl rfl | exact wanted_no2 rfl rfl rfl)); (focus (intro hx9; (try simp only [Bool.not_eq_true', Bool.and_eq_true, Bool.not_not] at hx9); (try obtain ⟨hx9, hy9⟩ := hx9); (try subst hy9); (try subst hx9); (first | exact gives_and rfl rfl rfl rfl | exact gives_or rfl rfl rfl rfl | (intro wS hS; cases hS; go_wp2_with (refine wpList_load_at rfl 64 _ rfl lb 0 rfl _ _ HLC2.out Try.underlying64 rfl (by kernel_rfl) ?_); exact ⟨rfl, rfl, rfl⟩; done))))))); rfl; (try simp only [Act.put, List.setIfInBounds_toArray, List.set_cons_succ, List.set_cons_zero]))
  apply walked_nil
  intro wS hS
  cases hS
  have hKF : K < F.length := by rw [H.out.len]; exact HP.out.2.2.2.1
  have hfl : List.take (K * 12) (placesC F) ++ Value.bool true :: [Value.int .i64 lid, .int .i64 asid, .int .u64 (vp : Nat), .int .u64 (ip : Nat), .int .i64 fr, .bool p0, .bool p1, .bool p2, .bool s0, .bool s1, .bool s2] ++ List.drop (K * 12 + 12) (placesC F) = placesC (F.set K ⟨true, ⟨lid, asid, vp, ip, fr, p0, p1, p2, s0, s1, s2⟩⟩) := by
    have h9 := flatC_set pl_len F K ⟨true, ⟨lid, asid, vp, ip, fr, p0, p1, p2, s0, s1, s2⟩⟩ hKF
    exact h9
  have hJl : K * 12 + 12 ≤ (placesC F).length := by rw [flatC_length pl_len]; omega
  have hput := rt_put (x := x6.drew) (rt_old HN.out.2.2.1 (old_drew (old_refl _))) (F.set K ⟨true, ⟨lid, asid, vp, ip, fr, p0, p1, p2, s0, s1, s2⟩⟩) (by rw [List.length_set]; exact H.out.len)
  have HFL := Lib.hid (And.intro hfl (And.intro hJl hput))
  have HBL : Hid (x6.drew.heap[L]? = some (.cells (placesC F).toArray 129)) := Lib.hid HN.out.2.2.1.hL
  clear hKF hfl hJl hput c1
  show wpList _ _ _ [_] _ _
  go_upto_region 12 with (refine wpList_store_at rfl 129 _ _ rfl L (K * 12) (Value.bool true :: [Value.int .i64 lid, .int .i64 asid, .int .u64 (vp : Nat), .int .u64 (ip : Nat), .int .i64 fr, .bool p0, .bool p1, .bool p2, .bool s0, .bool s1, .bool s2]) rfl rfl 129 _ HBL.out (by kernel_rfl) HFL.out.2.1 (by intro v hv; simp only [List.mem_cons, List.not_mem_nil, or_false] at hv; rcases hv with rfl | rfl | rfl | rfl | rfl | rfl | rfl | rfl | rfl | rfl | rfl | rfl <;> rfl) ?_)
  have hfl : List.take (K * 12) (placesC F) ++ Value.bool true :: [Value.int .i64 lid, .int .i64 asid, .int .u64 (vp : Nat), .int .u64 (ip : Nat), .int .i64 fr, .bool p0, .bool p1, .bool p2, .bool s0, .bool s1, .bool s2] ++ List.drop (K * 12 + (Value.bool true :: [Value.int .i64 lid, .int .i64 asid, .int .u64 (vp : Nat), .int .u64 (ip : Nat), .int .i64 fr, .bool p0, .bool p1, .bool p2, .bool s0, .bool s1, .bool s2]).length) (placesC F) = placesC (F.set K ⟨true, ⟨lid, asid, vp, ip, fr, p0, p1, p2, s0, s1, s2⟩⟩) := HFL.out.1
  rw [hfl]
  have hT7 := HFL.out.2.2
  have hO7 := ((Only.of_below HN.out.2.1.1).mono (G := fun z => z = L) (fun _ _ f => f.elim)).drew.putB (b := L) (.cells (placesC (F.set K ⟨true, ⟨lid, asid, vp, ip, fr, p0, p1, p2, s0, s1, s2⟩⟩)).toArray 129) (fun _ => rfl)
  have hn7 : (putB x6.drew L (.cells (placesC (F.set K ⟨true, ⟨lid, asid, vp, ip, fr, p0, p1, p2, s0, s1, s2⟩⟩)).toArray 129)).heap[nb]? = some (.cells #[Value.bool on, .int .i64 qid, .int .i64 qas, .int .u64 (qvp : Nat), .int .u64 (qip : Nat), .int .i64 qfr, .bool q0, .bool q1, .bool q2, .bool r0, .bool r1, .bool r2] 129) := by
    rw [putB_other _ (by have := HN.out.2.2.2.2.2.1; omega)]; exact HN.out.1
  have hr7 : (putB x6.drew L (.cells (placesC (F.set K ⟨true, ⟨lid, asid, vp, ip, fr, p0, p1, p2, s0, s1, s2⟩⟩)).toArray 129)).heap[rb]? = some (.cells #[Value.int .i64 0, .int .i64 0, .int .u64 0, .int .u64 0, .int .i64 0, .bool false, .bool false, .bool false, .bool false, .bool false, .bool false] 64) := by
    have h1 := lt_of_block H.out.hL
    rw [putB_other _ (by have := HB.out.2; omega)]; exact HN.out.2.1.2.1
  generalize putB x6.drew L (.cells (placesC (F.set K ⟨true, ⟨lid, asid, vp, ip, fr, p0, p1, p2, s0, s1, s2⟩⟩)).toArray 129) = x7 at *
  obtain ⟨k7, -, -⟩ := of_block hn7
  have hz7 := lt_of_block hr7
  have HF7 := Lib.hid (And.intro hT7 (And.intro hO7 hr7))
  have hne : Hid (¬ q = rb ∧ ¬ L = rb ∧ w.heap.size ≤ rb) := Lib.hid (by have h1 := lt_of_block H.out.hL; have h2 := lt_of_block H.out.hq; have := HB.out.2; omega)
  clear hfl hT7 hO7 hr7 hn7 u0
  cases on with
  | false =>
    go_wp2_with (refine wpList_store_at rfl 64 _ _ rfl rb 0 [Value.int .i64 0, .int .i64 0, .int .u64 0, .int .u64 0, .int .i64 0, .bool false, .bool false, .bool false, .bool false, .bool false, .bool false] rfl rfl 64 _ HF7.out.2.2 (by kernel_rfl) (by decide) (by decide) ?_)
    have k9 := fun i => putB_cell_same (w := x7) #[Value.int .i64 0, .int .i64 0, .int .u64 0, .int .u64 0, .int .i64 0, .bool false, .bool false, .bool false, .bool false, .bool false, .bool false] 64 (0, 0) i hz7
    refine bodyPost_ret (by simp [results, Try.results42, go_sem, k9]; try rfl) rfl ?_
    exact ⟨rfl, rt_only HF7.out.1 ((Only.refl (fun z => z = rb) x7).putB _ (fun _ => rfl)) hne.out.1 hne.out.2.1, HF7.out.2.1.putB _ (fun hlt => by have := hne.out.2.2; omega)⟩
  | true =>
    have hcl7 : ∀ (c : Nat) (v : Value), [Value.int .i64 qid, .int .i64 qas, .int .u64 (qvp : Nat), .int .u64 (qip : Nat), .int .i64 qfr, .bool q0, .bool q1, .bool q2, .bool r0, .bool r1, .bool r2][c]? = some v → x7.cell? ⟨nb, 1 + c, none⟩ = some v := fun c v hv => by
      rw [Nat.add_comm]; exact (k7 (c + 1)).trans (by simpa using hv)
    have HCL7 := Lib.hid hcl7
    clear hcl7
    go_wp2_with (first | (refine wpList_load_at rfl 64 _ rfl nb 1 rfl _ _ HCL7.out Try.underlying64 rfl (by kernel_rfl) ?_) | (refine wpList_store_at rfl 64 _ _ rfl rb 0 [Value.int .i64 qid, .int .i64 qas, .int .u64 (qvp : Nat), .int .u64 (qip : Nat), .int .i64 qfr, .bool q0, .bool q1, .bool q2, .bool r0, .bool r1, .bool r2] rfl rfl 64 _ HF7.out.2.2 (by kernel_rfl) (Nat.le_of_eq rfl) (by intro v hv; simp only [List.mem_cons, List.not_mem_nil, or_false] at hv; rcases hv with rfl | rfl | rfl | rfl | rfl | rfl | rfl | rfl | rfl | rfl | rfl <;> rfl) ?_))
    have k9 := fun i => putB_cell_same (w := x7) #[Value.int .i64 qid, .int .i64 qas, .int .u64 (qvp : Nat), .int .u64 (qip : Nat), .int .i64 qfr, .bool q0, .bool q1, .bool q2, .bool r0, .bool r1, .bool r2] 64 (0, 0) i hz7
    refine bodyPost_ret (by simp [results, Try.results42, go_sem, k9]; try rfl) rfl ?_
    exact ⟨rfl, rt_only HF7.out.1 ((Only.refl (fun z => z = rb) x7).putB _ (fun _ => rfl)) hne.out.1 hne.out.2.1, HF7.out.2.1.putB _ (fun hlt => by have := hne.out.2.2; omega)⟩
end
end Go.Proofs.Ytfiofjalpaeohaa
