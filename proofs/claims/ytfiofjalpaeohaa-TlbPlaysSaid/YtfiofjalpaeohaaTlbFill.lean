/- The package tlb: Fill. -/
import Derived.Test.YtfiofjalpaeohaaTlbFind
import Derived.Deep.CutBlock
namespace Go.Proofs.Ytfiofjalpaeohaa
set_option linter.unusedVariables false
set_option linter.unusedSimpArgs false
open Go.RowKit

/-- The first place that is empty; -1: none. -/
def freeP : List Pl → Nat → Int
  | [], _ => -1
  | q :: l, i => if q.on then freeP l (i + 1) else i
theorem freeP_cases : ∀ (t : List Pl) (i : Nat), (freeP t i = -1 ∧ ∀ (j : Nat) (q : Pl), t[j]? = some q → q.on = true) ∨
    ∃ (j : Nat) (q : Pl), freeP t i = ((i + j : Nat) : Int) ∧ t[j]? = some q ∧ q.on = false ∧ ∀ (j' : Nat) (q' : Pl), j' < j → t[j']? = some q' → q'.on = true
  | [], i => .inl ⟨rfl, fun j q hq => by simp at hq⟩
  | p :: t, i => by
    unfold freeP
    by_cases h : p.on = true
    · rw [if_pos h]
      rcases freeP_cases t (i + 1) with ⟨a, b⟩ | ⟨j, q, a, b, c, d⟩
      · refine .inl ⟨a, fun j q hq => ?_⟩
        cases j with
        | zero => simp at hq; rw [← hq]; exact h
        | succ j => exact b j q (by simpa using hq)
      · refine .inr ⟨j + 1, q, by rw [a]; congr 1; omega, by simpa using b, c, fun j' q' hj hq' => ?_⟩
        cases j' with
        | zero => simp at hq'; rw [← hq']; exact h
        | succ j' => exact d j' q' (by omega) (by simpa using hq')
    · rw [if_neg h]
      exact .inr ⟨0, p, rfl, rfl, by simpa using h, fun j' q' hj => absurd hj (Nat.not_lt_zero _)⟩
/-- The way that is told. -/
def wayJ (way : Int) (wy : Nat) : Nat := ((way.tmod wy + wy).tmod wy).toNat
theorem wayJ_eq (way : Int) (wy : Nat) (h1 : 1 ≤ wy) (h8 : wy ≤ 8) : (wrap64 (way.tmod wy + wy)).tmod wy = (wayJ way wy : Nat) ∧ wayJ way wy < wy ∧ (way.tmod wy + wy).tmod wy = (wayJ way wy : Nat) := by
  have a1 : way.tmod wy < wy := Int.tmod_lt_of_pos way (by omega)
  have a2 : -(wy : Int) < way.tmod wy := by
    by_cases h : 0 ≤ way
    · have := Int.tmod_nonneg (wy : Int) h; omega
    · have e : way.tmod wy = -((-way).tmod wy) := by rw [Int.neg_tmod, Int.neg_neg]
      have := Int.tmod_lt_of_pos (-way) (show (0 : Int) < (wy : Int) by omega)
      omega
  have b1 := Int.tmod_nonneg (wy : Int) (show 0 ≤ way.tmod wy + wy by omega)
  have b2 : (way.tmod wy + wy).tmod wy < wy := Int.tmod_lt_of_pos _ (by omega)
  unfold wayJ
  rw [IntWalk.wrap64_in _ (by omega)]
  omega
/-- Where a line is laid. -/
def fillJ (t : List Pl) (l : Ln) (way : Int) (wy : Nat) : Nat := if atP l.id l.asid l.vp t 0 = -1 then (if freeP t 0 = -1 then wayJ way wy else (freeP t 0).toNat) else (atP l.id l.asid l.vp t 0).toNat
theorem fillJ_lt (t : List Pl) (l : Ln) (way : Int) (wy : Nat) (h1 : 1 ≤ wy) (h8 : wy ≤ 8) (ht : t.length = wy) : fillJ t l way wy < wy := by
  unfold fillJ
  rcases atP_cases l.id l.asid l.vp t 0 with ⟨a, _⟩ | ⟨j, q, a, b, _⟩
  · rw [if_pos a]
    rcases freeP_cases t 0 with ⟨c, _⟩ | ⟨j, q, c, d, _⟩
    · rw [if_pos c]; exact (wayJ_eq way wy h1 h8).2.1
    · rw [if_neg (by rw [c]; omega), c]
      have := (List.getElem?_eq_some_iff.1 d).1
      omega
  · rw [if_neg (by rw [a]; omega), a]
    have := (List.getElem?_eq_some_iff.1 b).1
    omega

section
variable {w : World} {p gs : Nat} {bs : List Nat} {n wy : Nat} {T : List (List Pl)} {i0 b : Nat} {t : List Pl}
set_option maxHeartbeats 8000000 in
set_option maxRecDepth 100000 in
theorem fill_calls (h : IsTlb w p gs bs n wy T) (l : Ln) (way : Int) (hi : i0 = l.vp % n) (hb : bs[i0]? = some b) (ht : T[i0]? = some t) (q : Pl) (hq : t[fillJ t l way wy]? = some q) :
    Calls Try.prog 30 #[.pointer (some ⟨p, 0, none⟩), .agg l.cells.toArray, .int .i64 way] w (fun e y => e = .returned (.tuple #[.agg q.l.cells.toArray, .bool q.on]) ∧
      IsTlb y p gs bs n wy (T.set i0 (t.set (fillJ t l way wy) ⟨true, l⟩)) ∧ Only (fun z => z = b) w y) := by
  have hset := fun x (hx : Old w x) => set_calls x p gs bs n wy T l.vp (tlb_old h hx) i0 b hi hb
  have hat := fun x (hx : Old w x) => at_calls x p gs bs n wy T l.id l.asid l.vp (tlb_old h hx) i0 b t hi hb ht
  have hof := fun x => of_calls l x
  have htl := (h.set_ i0 b t hb ht).1
  have hJ := fillJ_lt t l way wy h.h2.1 h.h2.2 htl
  have hwj := wayJ_eq way wy h.h2.1 h.h2.2
  have hcell := fun x (hx : Old w x) {i : Nat} {r : Pl} (hr : t[i]? = some r) => pl_cell (tlb_old h hx) hb ht hr
  have hfin := fun x (hx : Old w x) => tlb_put (tlb_old h hx) hb (t.set (fillJ t l way wy) ⟨true, l⟩) (by rw [List.length_set]; exact htl)
  have hblk := fun x (hx : Old w x) => ((tlb_old h hx).set_ i0 b t hb ht).2
  have hflat := flatC_set pl_len t (fillJ t l way wy) ⟨true, l⟩ (by rw [htl]; exact hJ)
  obtain ⟨a0, ha0⟩ : ∃ a0, atP l.id l.asid l.vp t 0 = a0 := ⟨_, rfl⟩
  obtain ⟨f0, hf0⟩ : ∃ f0, freeP t 0 = f0 := ⟨_, rfl⟩
  have hJd : fillJ t l way wy = if a0 = -1 then (if f0 = -1 then wayJ way wy else f0.toNat) else a0.toNat := by unfold fillJ; rw [ha0, hf0]
  rw [ha0] at hat
  have ha1 : a0 = -1 ∨ (0 ≤ a0 ∧ a0 < wy) := by
    rcases atP_cases l.id l.asid l.vp t 0 with ⟨a, _⟩ | ⟨j, q, a, b, _⟩
    · exact .inl (by rw [← ha0]; exact a)
    · have := (List.getElem?_eq_some_iff.1 b).1
      exact .inr (by rw [← ha0, a]; omega)
  have hf1 : f0 = -1 ∨ (0 ≤ f0 ∧ f0 < wy) := by
    rcases freeP_cases t 0 with ⟨a, _⟩ | ⟨j, q, a, b, _⟩
    · exact .inl (by rw [← hf0]; exact a)
    · have := (List.getElem?_eq_some_iff.1 b).1
      exact .inr (by rw [← hf0, a]; omega)
  generalize fillJ t l way wy = J at *
  obtain ⟨on, qid, qas, qvp, qip, qfr, q0, q1, q2, r0, r1, r2⟩ := q
  have w1 : (1 : Int) ≤ wy := by have := h.h2.1; omega
  have w8 : (wy : Int) ≤ 8 := by have := h.h2.2; omega
  have HPL : Hid (p < w.heap.size ∧ gs < w.heap.size ∧ ∀ b ∈ bs, b < w.heap.size) := Lib.hid (tlb_lt h)
  have HSet := Lib.hid hset
  have HAt := Lib.hid hat
  have HC := Lib.hid @hcell
  have HFin := Lib.hid hfin
  have HBlk := Lib.hid hblk
  have HFlat := Lib.hid hflat
  have HJ := Lib.hid hJ
  have HJd := Lib.hid hJd
  have HWJ := Lib.hid hwj
  have HA1 := Lib.hid ha1
  have HF1 := Lib.hid hf1
  have HF0 := Lib.hid hf0
  have HTL := Lib.hid htl
  have HQ := Lib.hid hq
  clear h hset hat hcell hfin hblk hflat hJ hJd hwj ha1 hf1 hf0 ha0 htl hi hb ht hq
  have HLC : Hid (l.cells = l.cells) := Lib.hid rfl
  obtain ⟨lid, asid, vp, ip, fr, p0, p1, p2, s0, s1, s2⟩ := l
  change Calls _ _ #[_, .agg #[.int .i64 lid, .int .i64 asid, .int .u64 (vp : Nat), .int .u64 (ip : Nat), .int .i64 fr, .bool p0, .bool p1, .bool p2, .bool s0, .bool s1, .bool s2], _] w _
  change ∀ x, Calls _ _ #[.agg #[.int .i64 lid, .int .i64 asid, .int .u64 (vp : Nat), .int .u64 (ip : Nat), .int .i64 fr, .bool p0, .bool p1, .bool p2, .bool s0, .bool s1, .bool s2]] x _ at hof
  have HOf := Lib.hid hof
  clear hof
  go_enter Try.func30, Try.ntmps30
  go_upto_region 1 with (fail)
  have hH := holds_new #[.int .i64 0, .int .i64 0, .int .u64 0, .int .u64 0, .int .i64 0, .bool false, .bool false, .bool false, .bool false, .bool false, .bool false] 64 (holds_new #[.int .i64 lid, .int .i64 asid, .int .u64 (vp : Nat), .int .u64 (ip : Nat), .int .i64 fr, .bool p0, .bool p1, .bool p2, .bool s0, .bool s1, .bool s2] 64 (holds_nil w))
  rw [World.size_alloc] at hH
  generalize (w.alloc (.cells #[.int .i64 lid, .int .i64 asid, .int .u64 (vp : Nat), .int .u64 (ip : Nat), .int .i64 fr, .bool p0, .bool p1, .bool p2, .bool s0, .bool s1, .bool s2] 64)).alloc (.cells #[.int .i64 0, .int .i64 0, .int .u64 0, .int .u64 0, .int .i64 0, .bool false, .bool false, .bool false, .bool false, .bool false, .bool false] 64) = W at *
  obtain ⟨lb, hlb⟩ : ∃ lb, lb = w.heap.size := ⟨_, rfl⟩
  obtain ⟨rb, hrb⟩ : ∃ rb, rb = w.heap.size + 1 := ⟨_, rfl⟩
  rw [← hrb, ← hlb] at hH ⊢
  have HB := Lib.hid (And.intro hlb hrb)
  clear hlb hrb
  obtain ⟨g0, g1, g2, _⟩ := id hH
  obtain ⟨k2, f2, z2⟩ := of_block g2
  have hc := HSet.out _ hH.1
  have HH := Lib.hid hH
  clear g0 g1 g2 hH
  go_wp2_with fail
  (with_reducible refine hc.mono ?_)
  rintro e x2 ⟨rfl, hO⟩
  have hH := holds_old HH.out hO
  obtain ⟨g0, g1, g2, _⟩ := id hH
  obtain ⟨k2, f2, z2⟩ := of_block g2
  have HH := Lib.hid hH
  clear hc hO hH g0 g1 g2
  go_wp2_with fail
  (with_reducible refine (HOf.out _).mono ?_)
  rintro e x3 ⟨rfl, hO⟩
  have hH := holds_old HH.out hO
  have hc := HAt.out _ hH.1
  have HH := Lib.hid hH
  clear hO hH k2 f2 z2
  go_wp2_with fail
  (with_reducible refine hc.mono ?_)
  rintro e x4 ⟨rfl, hO⟩
  have HH := Lib.hid (holds_old HH.out hO)
  clear hc hO
  obtain ⟨F, hF⟩ : ∃ F, F = if a0 = -1 then f0 else a0 := ⟨_, rfl⟩
  have hJF : J = if F = -1 then wayJ way wy else F.toNat := by
    rw [HJd.out, hF]
    by_cases h : a0 = -1
    · rw [if_pos h, if_pos h]
    · rw [if_neg h, if_neg h, if_neg h]
  have hF2 : F = -1 ∨ (0 ≤ F ∧ F < wy) := by
    rw [hF]
    by_cases h : a0 = -1
    · rw [if_pos h]; exact HF1.out
    · rw [if_neg h]; rcases HA1.out with h2 | h2
      · exact absurd h2 h
      · exact .inr h2
  have HF := Lib.hid hF
  have HJF := Lib.hid hJF
  have HF2 := Lib.hid hF2
  clear hF hJF hF2
  go_upto_block 0 with (fail)
  go_cut [9] (fun s9 wx => s9 = .int .i64 F ∧ x4 = wx)
  case first =>
    have hh := HH.out
    go_wp2
    go_loopw [9, 10] (fun s9 s10 wx => ∃ (k : Nat) (z : Int), k ≤ wy ∧ s10 = .int .i64 (k : Nat) ∧ s9 = .int .i64 z ∧ x4 = wx ∧ ((0 ≤ z ∧ z = F) ∨ (z = -1 ∧ a0 = -1 ∧ freeP (t.drop k) k = f0))) (fun s9 s10 _ => (if intOf s9 < 0 then 1 else 0) + (wy - (intOf s10).toNat))
    case atStart =>
      refine ⟨0, a0, by omega, rfl, rfl, rfl, ?_⟩
      rcases HA1.out with h | h
      · exact .inr ⟨h, h, HF0.out⟩
      · refine .inl ⟨h.1, ?_⟩
        rw [HF.out, if_neg (by omega)]
    case round =>
      clear hh
      obtain ⟨k, z, hk, rfl, rfl, rfl, hz⟩ := hrel
      rcases hz with ⟨z0, hz⟩ | ⟨z1, a1, hz⟩
      · subst hz
        by_cases hkw : k = wy
        · have e1 : ¬ (k : Int) < wy := by omega
          clear hkw hk
          go_wp2
          go_meet
          case rel => exact ⟨rfl, rfl⟩
        · have e1 : (k : Int) < wy := by omega
          clear hkw hk
          go_wp2
          go_meet
          case rel => exact ⟨rfl, rfl⟩
      · subst z1
        by_cases hkw : k = wy
        · subst hkw
          have e : F = -1 := by rw [HF.out, if_pos a1, ← hz, List.drop_eq_nil_of_le (by rw [HTL.out]; omega)]; rfl
          subst e
          clear hk hz a1
          go_wp2
          go_meet
          case rel => exact ⟨rfl, rfl⟩
        · have hlt : k < wy := by omega
          obtain ⟨r, hr⟩ : ∃ r, t[k]? = some r := ⟨_, List.getElem?_eq_getElem (by rw [HTL.out]; exact hlt)⟩
          have hdrop : t.drop k = r :: t.drop (k + 1) := by
            have hil : k < t.length := (List.getElem?_eq_some_iff.1 hr).1
            rw [List.drop_eq_getElem_cons hil]
            rw [List.getElem?_eq_getElem hil] at hr
            rw [Option.some.inj hr]
          rw [hdrop] at hz
          have e1 : (k : Int) < wy := by omega
          have con := HC.out x4 HH.out.1 hr 0 _ rfl
          obtain ⟨on', rl⟩ := r
          have con' : x4.cell? ⟨b, k * 12, none⟩ = some (.bool on') := con
          have HZ := Lib.hid hz
          have HK := Lib.hid hlt
          have HA := Lib.hid a1
          clear hz a1 hlt hkw hk hdrop hr con
          cases on'
          case false =>
            go_wp2
            go_roundw
            case rel =>
              refine ⟨k + 1, k, HK.out, by simp, rfl, trivial, .inl ⟨by omega, ?_⟩⟩
              rw [HF.out, if_pos HA.out, ← HZ.out]; rfl
            case measure => have := HK.out; have hk0 : ¬ ((k : Nat) : Int) < 0 := (by omega); (simp [intOf, hk0]) <;> omega
          case true =>
            go_wp2
            go_roundw
            case rel => exact ⟨k + 1, -1, HK.out, by simp, rfl, trivial, .inr ⟨rfl, HA.out, HZ.out⟩⟩
            case measure => have := HK.out; have hk0 : ¬ ((k : Nat) : Int) < 0 := (by omega); (simp [intOf, hk0]) <;> omega
  case rest =>
  obtain ⟨rfl, rfl⟩ := hcut
  go_upto_if 38 with (fail)
  go_cut [9] (fun s9 wx => s9 = .int .i64 (J : Nat) ∧ x4 = wx)
  case first =>
    have hJ := HJF.out
    rcases HF2.out with h | h
    · subst h
      rw [if_pos rfl] at hJ
      subst hJ
      obtain ⟨w1', w2', w3'⟩ := HWJ.out
      have hn0 : ¬ (wy : Int) = 0 := by omega
      go_wp2
      go_meet
      case rel => exact ⟨by first | rfl | (simp only [w1']) | (simp only [w3']), rfl⟩
    · have h0 := h.1
      rw [if_neg (by omega)] at hJ
      have e : F = (J : Nat) := by omega
      subst e
      clear hJ h
      go_wp2
      go_meet
      case rel => exact ⟨rfl, rfl⟩
  case rest =>
  obtain ⟨rfl, rfl⟩ := hcut
  have hj1 : (J : Int) < wy := by have := HJ.out; omega
  have hcl4 : ∀ (c : Nat) (v : Value), [Value.bool on, .int .i64 qid, .int .i64 qas, .int .u64 (qvp : Nat), .int .u64 (qip : Nat), .int .i64 qfr, .bool q0, .bool q1, .bool q2, .bool r0, .bool r1, .bool r2][c]? = some v → x4.cell? ⟨b, J * 12 + c, none⟩ = some v := HC.out x4 HH.out.1 HQ.out
  have HCL := Lib.hid hcl4
  clear hcl4
  have hnb := Lib.hid (new_block x4 (.cells #[Value.bool false, .int .i64 0, .int .i64 0, .int .u64 0, .int .u64 0, .int .i64 0, .bool false, .bool false, .bool false, .bool false, .bool false, .bool false] 120))
  go_upto_region 11 with (first | (refine wpList_load_at rfl 120 _ rfl b (J * 12) rfl _ _ HCL.out Try.underlying120 rfl (by kernel_rfl) ?_) | (refine wpList_store_at rfl 120 _ _ rfl x4.heap.size 0 [Value.bool on, .int .i64 qid, .int .i64 qas, .int .u64 (qvp : Nat), .int .u64 (qip : Nat), .int .i64 qfr, .bool q0, .bool q1, .bool q2, .bool r0, .bool r1, .bool r2] rfl rfl 120 _ hnb.out (by kernel_rfl) (Nat.le_of_eq rfl) (by intro v hv; simp only [List.mem_cons, List.not_mem_nil, or_false] at hv; rcases hv with rfl | rfl | rfl | rfl | rfl | rfl | rfl | rfl | rfl | rfl | rfl | rfl <;> rfl) ?_))
  have hO4 := old_put (old_alloc (old_refl x4) (.cells #[Value.bool false, .int .i64 0, .int .i64 0, .int .u64 0, .int .u64 0, .int .i64 0, .bool false, .bool false, .bool false, .bool false, .bool false, .bool false] 120)) (.cells #[Value.bool on, .int .i64 qid, .int .i64 qas, .int .u64 (qvp : Nat), .int .u64 (qip : Nat), .int .i64 qfr, .bool q0, .bool q1, .bool q2, .bool r0, .bool r1, .bool r2] 120) (Nat.le_refl x4.heap.size)
  have hn4b : (putB (x4.alloc (.cells #[Value.bool false, .int .i64 0, .int .i64 0, .int .u64 0, .int .u64 0, .int .i64 0, .bool false, .bool false, .bool false, .bool false, .bool false, .bool false] 120)) x4.heap.size (.cells #[Value.bool on, .int .i64 qid, .int .i64 qas, .int .u64 (qvp : Nat), .int .u64 (qip : Nat), .int .i64 qfr, .bool q0, .bool q1, .bool q2, .bool r0, .bool r1, .bool r2] 120)).heap[x4.heap.size]? = some (.cells #[Value.bool on, .int .i64 qid, .int .i64 qas, .int .u64 (qvp : Nat), .int .u64 (qip : Nat), .int .i64 qfr, .bool q0, .bool q1, .bool q2, .bool r0, .bool r1, .bool r2] 120) := putB_same _ (by rw [World.size_alloc]; omega)
  show Code.wp _ _ _ _ (putB (x4.alloc (.cells #[Value.bool false, .int .i64 0, .int .i64 0, .int .u64 0, .int .u64 0, .int .i64 0, .bool false, .bool false, .bool false, .bool false, .bool false, .bool false] 120)) x4.heap.size (.cells #[Value.bool on, .int .i64 qid, .int .i64 qas, .int .u64 (qvp : Nat), .int .u64 (qip : Nat), .int .i64 qfr, .bool q0, .bool q1, .bool q2, .bool r0, .bool r1, .bool r2] 120))
  have hn4 := holds_old HH.out hO4
  have hns : w.heap.size ≤ x4.heap.size := HH.out.1.size
  generalize putB (x4.alloc (.cells #[Value.bool false, .int .i64 0, .int .i64 0, .int .u64 0, .int .u64 0, .int .i64 0, .bool false, .bool false, .bool false, .bool false, .bool false, .bool false] 120)) x4.heap.size (.cells #[Value.bool on, .int .i64 qid, .int .i64 qas, .int .u64 (qvp : Nat), .int .u64 (qip : Nat), .int .i64 qfr, .bool q0, .bool q1, .bool q2, .bool r0, .bool r1, .bool r2] 120) = x5 at *
  generalize x4.heap.size = nb at *
  have HN := Lib.hid (And.intro hn4b hns)
  have HH5 := Lib.hid hn4
  obtain ⟨g0, g1, g2, _⟩ := hn4
  obtain ⟨k2, f2, z2⟩ := of_block g2
  have HB5 := Lib.hid (HBlk.out x5 g0)
  have hfl : (t.length * 12) = (placesC t).length := (flatC_length pl_len t).symm
  have hJl : J * 12 + 12 ≤ (placesC t).length := by rw [← hfl, HTL.out]; have := HJ.out; omega
  have HJL := Lib.hid hJl
  clear hO4 hn4b g0 g1 g2 hns hnb HCL hfl hJl HC
  go_upto_region 12 with (first | (refine wpList_store_at rfl 120 _ _ rfl b (J * 12) [Value.bool true, .int .i64 lid, .int .i64 asid, .int .u64 (vp : Nat), .int .u64 (ip : Nat), .int .i64 fr, .bool p0, .bool p1, .bool p2, .bool s0, .bool s1, .bool s2] rfl rfl 120 _ HB5.out (by kernel_rfl) HJL.out (by intro v hv; simp only [List.mem_cons, List.not_mem_nil, or_false] at hv; rcases hv with rfl | rfl | rfl | rfl | rfl | rfl | rfl | rfl | rfl | rfl | rfl | rfl <;> rfl) ?_))
  clear k2 f2 z2
  have hfl : List.take (J * 12) (placesC t) ++ [Value.bool true, .int .i64 lid, .int .i64 asid, .int .u64 (vp : Nat), .int .u64 (ip : Nat), .int .i64 fr, .bool p0, .bool p1, .bool p2, .bool s0, .bool s1, .bool s2] ++ List.drop (J * 12 + [Value.bool true, .int .i64 lid, .int .i64 asid, .int .u64 (vp : Nat), .int .u64 (ip : Nat), .int .i64 fr, .bool p0, .bool p1, .bool p2, .bool s0, .bool s1, .bool s2].length) (placesC t) = placesC (t.set J ⟨true, ⟨lid, asid, vp, ip, fr, p0, p1, p2, s0, s1, s2⟩⟩) := HFlat.out
  rw [hfl]
  have hT6 := HFin.out x5 HH5.out.1
  have hO6 := ((Only.of_below HH5.out.1).mono (G := fun z => z = b) (fun _ _ f => f.elim)).putB (b := b) (.cells (placesC (t.set J ⟨true, ⟨lid, asid, vp, ip, fr, p0, p1, p2, s0, s1, s2⟩⟩)).toArray 120) (fun _ => rfl)
  have hbw := lt_of_block (HBlk.out w (old_refl w))
  obtain ⟨hlb, hrb⟩ := HB.out
  have hn6 : (putB x5 b (.cells (placesC (t.set J ⟨true, ⟨lid, asid, vp, ip, fr, p0, p1, p2, s0, s1, s2⟩⟩)).toArray 120)).heap[nb]? = some (.cells #[Value.bool on, .int .i64 qid, .int .i64 qas, .int .u64 (qvp : Nat), .int .u64 (qip : Nat), .int .i64 qfr, .bool q0, .bool q1, .bool q2, .bool r0, .bool r1, .bool r2] 120) := by
    rw [putB_other _ (by have := HN.out.2; omega)]; exact HN.out.1
  have hr6 : (putB x5 b (.cells (placesC (t.set J ⟨true, ⟨lid, asid, vp, ip, fr, p0, p1, p2, s0, s1, s2⟩⟩)).toArray 120)).heap[rb]? = some (.cells #[Value.int .i64 0, .int .i64 0, .int .u64 0, .int .u64 0, .int .i64 0, .bool false, .bool false, .bool false, .bool false, .bool false, .bool false] 64) := by
    rw [putB_other _ (by omega)]; exact HH5.out.2.1
  generalize putB x5 b (.cells (placesC (t.set J ⟨true, ⟨lid, asid, vp, ip, fr, p0, p1, p2, s0, s1, s2⟩⟩)).toArray 120) = x6 at *
  have HF6 := Lib.hid (And.intro hT6 hO6)
  have HR6 := Lib.hid hr6
  have HRB := Lib.hid (And.intro hbw hrb)
  have hz6 : rb < x6.drew.heap.size := lt_of_block hr6
  have hn7 : (putB x6.drew rb (.cells #[Value.int .i64 qid, .int .i64 qas, .int .u64 (qvp : Nat), .int .u64 (qip : Nat), .int .i64 qfr, .bool q0, .bool q1, .bool q2, .bool r0, .bool r1, .bool r2] 64)).heap[nb]? = some (.cells #[Value.bool on, .int .i64 qid, .int .i64 qas, .int .u64 (qvp : Nat), .int .u64 (qip : Nat), .int .i64 qfr, .bool q0, .bool q1, .bool q2, .bool r0, .bool r1, .bool r2] 120) := by
    rw [putB_other _ (fun e => ?_)]
    · exact hn6
    · subst e; rw [hn6] at hr6; cases hr6
  have cA := cell_of (w := x6.drew) hn6
  have cB := cell_of hn7
  have HX := Lib.hid (cell_of (w := x6.drew) hr6)
  clear hfl hT6 hO6 hbw hlb hrb hr6 hn6 hn7
  refine wp_region_staged (S := StageS 4 x6.drew (putB x6.drew rb (.cells #[Value.int .i64 qid, .int .i64 qas, .int .u64 (qvp : Nat), .int .u64 (qip : Nat), .int .i64 qfr, .bool q0, .bool q1, .bool q2, .bool r0, .bool r1, .bool r2] 64))) 5 (by kernel_rfl) (by kernel_rfl) (by kernel_rfl) (by decide) rfl ?_
  (apply walkedS_cons; (focus (intro l9 wS hz hn hS; have hS9 := stage_other 0 (by decide) hS; have c9 := fun i => stage_cell hS (cA i) (cB i); clear hS; go_wp2_with (refine wpList_load_at rfl 64 _ rfl nb 1 rfl [Value.int .i64 qid, .int .i64 qas, .int .u64 (qvp : Nat), .int .u64 (qip : Nat), .int .i64 qfr, .bool q0, .bool q1, .bool q2, .bool r0, .bool r1, .bool r2] _ (fun c v hv => by rw [Nat.add_comm]; exact (c9 (c + 1)).trans (by simpa using hv)) Try.underlying64 rfl (by kernel_rfl) ?_); exact ⟨rfl, rfl, hS9⟩)); rfl; (try simp only [Act.put, List.setIfInBounds_toArray, List.set_cons_succ, List.set_cons_zero]))
  (apply walkedS_cons; (focus (intro l9 wS hz hn hS; have hS9 := stage_other 1 (by decide) hS; have c9 := fun i => stage_cell hS (cA i) (cB i); clear hS; go_wp2_with (refine wpList_load_at rfl 64 _ rfl nb 1 rfl [Value.int .i64 qid, .int .i64 qas, .int .u64 (qvp : Nat), .int .u64 (qip : Nat), .int .i64 qfr, .bool q0, .bool q1, .bool q2, .bool r0, .bool r1, .bool r2] _ (fun c v hv => by rw [Nat.add_comm]; exact (c9 (c + 1)).trans (by simpa using hv)) Try.underlying64 rfl (by kernel_rfl) ?_); exact ⟨rfl, rfl, hS9⟩)); rfl; (try simp only [Act.put, List.setIfInBounds_toArray, List.set_cons_succ, List.set_cons_zero]))
  (apply walkedS_cons; (focus (intro l9 wS hz hn hS; have hS9 := stage_other 2 (by decide) hS; have c9 := fun i => stage_cell hS (cA i) (cB i); clear hS; go_wp2_with (refine wpList_load_at rfl 64 _ rfl nb 1 rfl [Value.int .i64 qid, .int .i64 qas, .int .u64 (qvp : Nat), .int .u64 (qip : Nat), .int .i64 qfr, .bool q0, .bool q1, .bool q2, .bool r0, .bool r1, .bool r2] _ (fun c v hv => by rw [Nat.add_comm]; exact (c9 (c + 1)).trans (by simpa using hv)) Try.underlying64 rfl (by kernel_rfl) ?_); exact ⟨rfl, rfl, hS9⟩)); rfl; (try simp only [Act.put, List.setIfInBounds_toArray, List.set_cons_succ, List.set_cons_zero]))
  (apply walkedS_cons; (focus (intro l9 wS hz hn hS; have hS9 := stage_other 3 (by decide) hS; have c9 := fun i => stage_cell hS (cA i) (cB i); clear hS; go_wp2_with (refine wpList_load_at rfl 64 _ rfl nb 1 rfl [Value.int .i64 qid, .int .i64 qas, .int .u64 (qvp : Nat), .int .u64 (qip : Nat), .int .i64 qfr, .bool q0, .bool q1, .bool q2, .bool r0, .bool r1, .bool r2] _ (fun c v hv => by rw [Nat.add_comm]; exact (c9 (c + 1)).trans (by simpa using hv)) Try.underlying64 rfl (by kernel_rfl) ?_); exact ⟨rfl, rfl, hS9⟩)); rfl; (try simp only [Act.put, List.setIfInBounds_toArray, List.set_cons_succ, List.set_cons_zero]))
  apply walkedS_cons
  · intro l9 wS hz hn hS
    obtain rfl := stage_before hn hS
    clear hS
    go_wp2_with (refine wpList_store_at rfl 64 _ _ rfl rb 0 [Value.int .i64 qid, .int .i64 qas, .int .u64 (qvp : Nat), .int .u64 (qip : Nat), .int .i64 qfr, .bool q0, .bool q1, .bool q2, .bool r0, .bool r1, .bool r2] rfl rfl 64 _ HR6.out (by kernel_rfl) (Nat.le_of_eq rfl) (by intro v hv; simp only [List.mem_cons, List.not_mem_nil, or_false] at hv; rcases hv with rfl | rfl | rfl | rfl | rfl | rfl | rfl | rfl | rfl | rfl | rfl <;> rfl) ?_)
    exact ⟨rfl, rfl, stage_done hz (by decide)⟩
  · rfl
  apply walkedS_nil
  intro l9 wS hz hall hS
  obtain rfl := stage_after (hall 4 (by decide)) hS
  clear hS
  show wpList _ _ _ [_] _ _
  go_wp2
  have k9 := fun i => putB_cell_same (w := x6.drew) #[Value.int .i64 qid, .int .i64 qas, .int .u64 (qvp : Nat), .int .u64 (qip : Nat), .int .i64 qfr, .bool q0, .bool q1, .bool q2, .bool r0, .bool r1, .bool r2] 64 (0, 0) i hz6
  refine bodyPost_ret (by simp [results, Try.results30, go_sem, k9]; try rfl) rfl ?_
  obtain ⟨hbw, hrb⟩ := HRB.out
  have hne : ∀ z, z < w.heap.size → ¬ z = rb := fun z hz => by omega
  refine ⟨rfl, tlb_only HF6.out.1 (((Only.refl (fun z => z = rb) x6).drew).putB _ (fun _ => rfl)) (hne _ HPL.out.1) (hne _ HPL.out.2.1) (fun b hb => hne b (HPL.out.2.2 b hb)), ?_⟩
  exact (HF6.out.2.drew).putB _ (fun hlt => by omega)
end
end Go.Proofs.Ytfiofjalpaeohaa
