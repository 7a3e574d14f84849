/- The statement TlbHolds: its walk. -/
import Derived.Test.YtfiofjalpaeohaaTlbHoldsN
import Derived.Test.YtfiofjalpaeohaaTlbUse
import Derived.Test.YtfiofjalpaeohaaTlbFree
import Derived.Test.YtfiofjalpaeohaaTlbArg
import Derived.Test.YtfiofjalpaeohaaIntsRow
import Derived.Test.YtfiofjalpaeohaaFrame
import Derived.Deep.CutBlock
namespace Go.Proofs.Ytfiofjalpaeohaa
set_option linter.unusedVariables false
set_option linter.unusedSimpArgs false
open Go.RowKit

/-- What holds ahead of each step. -/
structure HoldAt (w : World) (B p gs : Nat) (bs : List Nat) (n wy : Nat) (T : List (List Pl)) (last : List Ln) (v : Value) (x : World) : Prop where
  tlb : IsTlb x p gs bs n wy T
  h : HoldsT n T last
  own : OwnLns x B v last
  old : Old w x
  bB : ∀ b ∈ bs, w.heap.size ≤ b ∧ b < B
  wB : w.heap.size ≤ B
  pB : p < B ∧ gs < B
  xB : B ≤ x.heap.size
theorem hold_old {w : World} {B p gs : Nat} {bs : List Nat} {n wy : Nat} {T : List (List Pl)} {last : List Ln} {v : Value} {x y : World} (h : HoldAt w B p gs bs n wy T last v x) (ho : Old x y) : HoldAt w B p gs bs n wy T last v y :=
  { h with tlb := tlb_old h.tlb ho, own := own_old h.own ho, old := old_then h.old ho, xB := Nat.le_trans h.xB ho.size }
theorem hold_tlb {w : World} {B p gs : Nat} {bs : List Nat} {n wy : Nat} {T T' : List (List Pl)} {last : List Ln} {v : Value} {x y : World} (h : HoldAt w B p gs bs n wy T last v x) (ho : Only (fun z => z ∈ bs) x y) (hT : IsTlb y p gs bs n wy T') {last' : List Ln} (hh : HoldsT n T' last') (hown : OwnLns y B v last') : HoldAt w B p gs bs n wy T' last' v y :=
  { h with tlb := hT, h := hh, own := hown, old := old_stepT h.old ho (fun b hb => (h.bB b hb).1), xB := Nat.le_trans h.xB ho.size }
theorem hold_lost {w : World} {B p gs : Nat} {bs : List Nat} {n wy : Nat} {T T' : List (List Pl)} {last : List Ln} {v : Value} {x y : World} (h : HoldAt w B p gs bs n wy T last v x) (ho : Only (fun z => z ∈ bs) x y) (hT : IsTlb y p gs bs n wy T') (hh : HoldsT n T' last) : HoldAt w B p gs bs n wy T' last v y :=
  hold_tlb h ho hT hh (own_only h.own ho (fun b hb hm => by have := (h.bB b hm).2; omega))
theorem kind12 (k : Int) : ∃ K : Nat, K < 12 ∧ (wrap64 (k.tmod 12 + 12)).tmod 12 = (K : Int) := by
  have a1 : k.tmod 12 < 12 := Int.tmod_lt_of_pos k (by omega)
  have a2 : -12 < k.tmod 12 := by
    by_cases h : 0 ≤ k
    · have := Int.tmod_nonneg (12 : Int) h; omega
    · have e : k.tmod 12 = -((-k).tmod 12) := by rw [Int.neg_tmod, Int.neg_neg]
      have := Int.tmod_lt_of_pos (-k) (show (0 : Int) < 12 by omega)
      omega
  have b1 := Int.tmod_nonneg (12 : Int) (show 0 ≤ k.tmod 12 + 12 by omega)
  have b2 : (k.tmod 12 + 12).tmod 12 < 12 := Int.tmod_lt_of_pos _ (by omega)
  refine ⟨((k.tmod 12 + 12).tmod 12).toNat, by omega, ?_⟩
  rw [IntWalk.wrap64_in _ (by omega)]
  omega
section
variable {x : World} {p gs : Nat} {bs : List Nat} {n wy : Nat} {T : List (List Pl)} {last : List Ln}
/-- Evict, whatever is asked. -/
theorem hold_evict (h : IsTlb x p gs bs n wy T) (si wi : Int) : Calls Try.prog 38 #[.pointer (some ⟨p, 0, none⟩), .int .i64 si, .int .i64 wi] x
    (fun e y => ∃ v T', e = .returned v ∧ IsTlb y p gs bs n wy T' ∧ (∀ last, HoldsT n T last → HoldsT n T' last) ∧ Only (fun z => z ∈ bs) x y) := by
  by_cases hb : 0 ≤ si ∧ si < n ∧ 0 ≤ wi ∧ wi < wy
  · obtain ⟨i, rfl⟩ : ∃ i : Nat, si = i := ⟨si.toNat, by omega⟩
    obtain ⟨j, rfl⟩ : ∃ j : Nat, wi = j := ⟨wi.toNat, by omega⟩
    obtain ⟨b, t, h1, h2, h3⟩ := tlb_block h (i := i) (by omega)
    refine (evict_calls h h1 h2 j _ (List.getElem?_eq_getElem (by rw [h3]; omega))).mono ?_
    rintro e y ⟨rfl, h4, h5⟩
    exact ⟨_, _, rfl, h4, fun last hl => holds_evict hl j h2, h5.mono fun i _ e => by rw [e]; exact List.mem_of_getElem? h1⟩
  · refine (evict_bad h si wi hb).mono ?_
    rintro e y ⟨rfl, h4⟩
    exact ⟨_, _, rfl, tlb_old h h4, fun last hl => hl, (Only.of_below h4).mono fun i _ f => f.elim⟩
/-- A line laid. -/
theorem hold_fill (h : IsTlb x p gs bs n wy T) (hh : HoldsT n T last) (l : Ln) (way : Int) : ∃ (q : Pl) (T' : List (List Pl)), (q.on = true → q.l.vp % n = l.vp % n) ∧ HoldsT n T' (last ++ [l]) ∧
    (∃ (b : Nat) (t : List Pl) (j : Nat), bs[l.vp % n]? = some b ∧ T'[l.vp % n]? = some t ∧ t[j]? = some ⟨true, l⟩ ∧ atP l.id l.asid l.vp t 0 = (j : Int)) ∧
    Calls Try.prog 30 #[.pointer (some ⟨p, 0, none⟩), .agg l.cells.toArray, .int .i64 way] x (fun e y => e = .returned (.tuple #[.agg q.l.cells.toArray, .bool q.on]) ∧ IsTlb y p gs bs n wy T' ∧ Only (fun z => z ∈ bs) x y) := by
  have hn := h.h1.1
  obtain ⟨b, t, hb, ht, htl⟩ := tlb_block h (i := l.vp % n) (Nat.mod_lt _ (by omega))
  have hJ := fillJ_lt t l way wy h.h2.1 h.h2.2 htl
  have hq : t[fillJ t l way wy]? = some (t[fillJ t l way wy]'(by rw [htl]; exact hJ)) := List.getElem?_eq_getElem _
  have hf := holds_fill (wy := wy) hh ht l way rfl (by rw [htl]; exact hJ)
  have hT' : (T.set (l.vp % n) (t.set (fillJ t l way wy) ⟨true, l⟩))[l.vp % n]? = some (t.set (fillJ t l way wy) ⟨true, l⟩) := by
    rw [List.getElem?_set, if_pos rfl, if_pos (List.getElem?_eq_some_iff.1 ht).1]
  have ht' : (t.set (fillJ t l way wy) ⟨true, l⟩)[fillJ t l way wy]? = some ⟨true, l⟩ := by
    rw [List.getElem?_set, if_pos rfl, if_pos (by rw [htl]; exact hJ)]
  refine ⟨_, _, fun hon => hh.place _ t _ _ ht hq hon, hf, ⟨b, _, _, hb, hT', ht', at_of hf hT' ht' rfl⟩, (fill_calls h l way rfl hb ht _ hq).mono ?_⟩
  rintro e y ⟨rfl, h1, h2⟩
  exact ⟨rfl, h1, h2.mono fun i _ e => by rw [e]; exact List.mem_of_getElem? hb⟩
end
set_option maxHeartbeats 16000000 in
set_option maxRecDepth 100000 in
theorem tlbHolds_walk (s : Int) (hs : (Lit.int .i64 s).wf = true) (y : Int) (hy : (Lit.int .i64 y).wf = true) (ad : Option Addr) (l : List TOp) (c : Nat) (w : World) (hN : l.length ≤ maxLen) (hOps : TOps w ad l) :
    Calls Try.prog 5 #[.int .i64 s, .int .i64 y, .slice ad l.length c] w (RetB w (.bool true)) := by
  have hl63 : l.length ≤ 9223372036854775807 := by unfold maxLen at hN; omega
  have HOps := Lib.hid hOps
  obtain ⟨K, hK⟩ : ∃ K, s % 8 = K := ⟨_, rfl⟩
  have hm1 : bits .and .i64 s 7 = K := by rw [i64_mask7]; exact hK
  obtain ⟨Y, hY⟩ : ∃ Y : Nat, y % 8 = Y := ⟨(y % 8).toNat, by omega⟩
  have hm2 : bits .and .i64 y 7 = Y := by rw [i64_mask7]; exact hY
  have HM := Lib.hid (And.intro hm1 hm2)
  have hK8 : 0 ≤ K ∧ K < 8 := by omega
  have hY8 : Y < 8 := by omega
  have HK := Lib.hid (And.intro hK8 hY8)
  clear hs hy hN hOps hK hY hm1 hm2 hK8 hY8
  go_enter Try.func5, Try.ntmps5
  go_upto_region 1 with (fail)
  refine wp_cutF [false, false, false, false, false, false, false, true, true, false, false, false, false, false, false, false, false, false, false, false, false, false, false, false, false, false, false, false, false, false, true, true, true, true, true, true, true, true] (fun f wx => ∃ n wy : Nat, setsB n ∧ 1 ≤ wy ∧ wy ≤ 8 ∧ f 7 = .int .i64 (n : Nat) ∧ f 8 = .int .i64 (wy : Nat) ∧ w = wx) ?rest ?first
  case first =>
    intro J1 K1 hJ1 hM1
    go_wp2
    refine Met.intro (hJ1 _ _ (by kernel_rfl) ?_)
    focus
      obtain ⟨hm1, hm2⟩ := HM.out
      obtain ⟨⟨k0, k8⟩, y8⟩ := HK.out
      have hw : wrap64 (1 + (Y : Int)) = ((1 + Y : Nat) : Int) := by rw [IntWalk.wrap64_in _ (by omega)]; omega
      have hk : K = 0 ∨ K = 1 ∨ K = 2 ∨ K = 3 ∨ K = 4 ∨ K = 5 ∨ K = 6 ∨ K = 7 := by omega
      rcases hk with rfl | rfl | rfl | rfl | rfl | rfl | rfl | rfl
      · exact ⟨1, 1 + Y, by unfold setsB; omega, by omega, by omega, (by show Value.int _ _ = _; rw [hm1]; kernel_rfl), (by show Value.int _ _ = _; rw [hm2, hw]), rfl⟩
      · exact ⟨2, 1 + Y, by unfold setsB; omega, by omega, by omega, (by show Value.int _ _ = _; rw [hm1]; kernel_rfl), (by show Value.int _ _ = _; rw [hm2, hw]), rfl⟩
      · exact ⟨4, 1 + Y, by unfold setsB; omega, by omega, by omega, (by show Value.int _ _ = _; rw [hm1]; kernel_rfl), (by show Value.int _ _ = _; rw [hm2, hw]), rfl⟩
      · exact ⟨8, 1 + Y, by unfold setsB; omega, by omega, by omega, (by show Value.int _ _ = _; rw [hm1]; kernel_rfl), (by show Value.int _ _ = _; rw [hm2, hw]), rfl⟩
      · exact ⟨16, 1 + Y, by unfold setsB; omega, by omega, by omega, (by show Value.int _ _ = _; rw [hm1]; kernel_rfl), (by show Value.int _ _ = _; rw [hm2, hw]), rfl⟩
      · exact ⟨32, 1 + Y, by unfold setsB; omega, by omega, by omega, (by show Value.int _ _ = _; rw [hm1]; kernel_rfl), (by show Value.int _ _ = _; rw [hm2, hw]), rfl⟩
      · exact ⟨64, 1 + Y, by unfold setsB; omega, by omega, by omega, (by show Value.int _ _ = _; rw [hm1]; kernel_rfl), (by show Value.int _ _ = _; rw [hm2, hw]), rfl⟩
      · exact ⟨1, 1 + Y, by unfold setsB; omega, by omega, by omega, (by show Value.int _ _ = _; rw [hm1]; kernel_rfl), (by show Value.int _ _ = _; rw [hm2, hw]), rfl⟩
  case rest =>
  intro f1 w0 hcut
  dsimp only [mergeA, mergeL, Nat.reduceAdd]
  obtain ⟨n, wy, hn, h1, h8, h7s, h8s, rfl⟩ := hcut
  rw [h7s, h8s]
  clear h7s h8s
  have hnw := tlbNew_calls w n wy hn ⟨h1, h8⟩
  have n1 : 1 ≤ n ∧ n ≤ 64 := by unfold setsB at hn; omega
  have HN := Lib.hid (And.intro n1 (And.intro h1 h8))
  clear hn n1 h1 h8 HM HK
  go_wp2_with fail
  (with_reducible refine hnw.mono ?_)
  rintro e z ⟨p, gs, bs, rfl, hT, hO, hp, hg, hb⟩
  have hF : HoldAt w z.heap.size p gs bs n wy (List.replicate n (List.replicate wy pl0)) [] (.slice none 0 0) z := ⟨hT, holds_start n wy, own_nil, hO, fun b hm => ⟨hb b hm, (tlb_lt hT).2.2 b hm⟩, hO.size, ⟨(tlb_lt hT).1, (tlb_lt hT).2.1⟩, Nat.le_refl _⟩
  have HF := Lib.hid hF
  generalize z.heap.size = B at *
  have w1 : (1 : Int) ≤ wy := by have := HN.out.2.1; omega
  have w8 : (wy : Int) ≤ 8 := by have := HN.out.2.2; omega
  have n1 : (1 : Int) ≤ n := by have := HN.out.1.1; omega
  have n64 : (n : Int) ≤ 64 := by have := HN.out.1.2; omega
  clear hnw hT hO hp hg hb hF
  go_upto_block 0 with (fail)
  refine wp_cutF [false, false, false, false, false, false, true, false, false, false, false, true, true, true, true, true, true, true, true, true, true, true, false, false, false, false, false, false, false, false, true, true, true, true, true, true, true, true, true, true, true, true, true, true, true, true, true, true, true, true, true, true, true, true, true, true, true, true, true, true, true, true, true, true, true, true, true, true, true, true, true, true, true, true, true, true, true, true, true, true, true, true, true, true, true, true, true, true, true, true, true, true, true, true, true, true, true, true, true, true, true, true, true, true, true, true, true, true, true, true, true, true, true, true, true, true, true, true, true, true, true, true, true, true, true, true, true, true, true, true, true, true, true, true, true, true, true, true, true, true, true, true, true, true, true, true, true, true, true, true, true, true, true, true, true, true, true, true, true, true, true, true, true, true, true, true, true, true, true, true, true, true, true, true, true, true, true, true, true, true] (fun f wx => ∃ T last, last.length ≤ 80 ∧ HoldAt w B p gs bs n wy T last (f 11) wx) ?rest2 ?first2
  case first2 =>
    intro J1 K1 hJ1 hM1
    go_wp2
    refine wp_loopF [false, false, false, false, false, false, true, false, false, false, false, true, true, true, true, true, true, true, true, true, true, true, false, false, false, false, false, false, false, false, false, false, false, false, false, false, false, false, false, false, false, false, false, false, false, false, false, false, false, false, true, true, true, true, true, true, true, true, true, true, true, true, true, true, true, true, true, true, true, true, true, true, true, true, true, true, true, true, true, true, true, true, true, true, true, true, true, true, true, true, true, true, true, true, true, true, true, true, true, true, true, true, true, true, true, true, true, true, true, true, true, true, true, true, true, true, true, true, true, true, true, true, true, true, true, true, true, true, true, true, true, true, true, true, true, true, true, true, true, true, true, true, true, true, true, true, true, true, true, true, true, true, true, true, true, true, true, true, true, true, true, true, true, true, true, true, true, true, true, true, true, true, true, true, true, true, true, true, true, true] (fun f wx => ∃ (i : Nat) (T : List (List Pl)) (last : List Ln), i ≤ l.length ∧ i ≤ 80 ∧ last.length ≤ i ∧ f 12 = .int .i64 (i : Nat) ∧ HoldAt w B p gs bs n wy T last (f 11) wx) (fun f => l.length - (intOf (f 12)).toNat) ?start ?round
    case start => exact ⟨0, _, [], by omega, by omega, by simp, rfl, HF.out⟩
    case round =>
      intro f2 wr hrel J2 K2 hJ2 hM2
      dsimp only [mergeA, mergeL, Nat.reduceAdd]
      clear HF
      obtain ⟨i, T, last, hi, hi80, hll, h12, hF⟩ := hrel
      rw [h12]
      generalize f2 11 = u11 at hF ⊢
      have H12 := Lib.hid h12
      clear h12
      have HF := Lib.hid hF
      have HLL := Lib.hid (show last.length ≤ 80 by omega)
      have HLI := Lib.hid hll
      clear hF
      by_cases hil : i = l.length
      · have e1 : ¬ (i : Int) < l.length := by omega
        clear hil hi hi80 hll
        go_wp2
        refine Met.intro (hJ1 _ _ (by kernel_rfl) ?_)
        exact ⟨T, last, HLL.out, HF.out⟩
      · have e1 : (i : Int) < l.length := by omega
        by_cases h80 : i = 80
        · have e2 : ¬ (i : Int) < 80 := by omega
          clear hil hi hi80 h80 hll
          go_wp2
          refine Met.intro (hJ1 _ _ (by kernel_rfl) ?_)
          exact ⟨T, last, HLL.out, HF.out⟩
        · have e2 : (i : Int) < 80 := by omega
          have hlt : i < l.length := by omega
          have HLT := Lib.hid (And.intro hlt (show i < 80 by omega))
          obtain ⟨op, ho⟩ : ∃ op, l[i]? = some op := ⟨_, List.getElem?_eq_getElem hlt⟩
          obtain ⟨_, b0, off, rfl, hb0, hc⟩ := tops_old HOps.out HF.out.old i op ho
          obtain ⟨okd, ost, owy, ⟨oid, oas, ovp, oip, ofr, op0, op1, op2, os0, os1, os2⟩⟩ := op
          have hcl : ∀ (c : Nat) (v : Value), [Value.int .i64 okd, .int .i64 ost, .int .i64 owy, .int .i64 oid, .int .i64 oas, .int .u64 (ovp : Nat), .int .u64 (oip : Nat), .int .i64 ofr, .bool op0, .bool op1, .bool op2, .bool os0, .bool os1, .bool os2][c]? = some v → wr.cell? ⟨b0, off + i * 14 + c, none⟩ = some v := hc
          have HCL := Lib.hid hcl
          have hzb := Lib.hid (new_block wr (.cells #[Value.int .i64 0, .int .i64 0, .int .i64 0, .int .i64 0, .int .i64 0, .int .u64 0, .int .u64 0, .int .i64 0, .bool false, .bool false, .bool false, .bool false, .bool false, .bool false] 72))
          clear hil hi hi80 h80 hlt hll ho hb0 hc hcl
          go_upto_region 10 with (first | (refine wpList_load_at rfl 72 _ rfl b0 (off + i * 14) rfl [Value.int .i64 okd, .int .i64 ost, .int .i64 owy, .int .i64 oid, .int .i64 oas, .int .u64 (ovp : Nat), .int .u64 (oip : Nat), .int .i64 ofr, .bool op0, .bool op1, .bool op2, .bool os0, .bool os1, .bool os2] _ HCL.out Try.underlying72 rfl (by kernel_rfl) ?_) | (refine wpList_store_at rfl 72 _ _ rfl wr.heap.size 0 [Value.int .i64 okd, .int .i64 ost, .int .i64 owy, .int .i64 oid, .int .i64 oas, .int .u64 (ovp : Nat), .int .u64 (oip : Nat), .int .i64 ofr, .bool op0, .bool op1, .bool op2, .bool os0, .bool os1, .bool os2] rfl rfl 72 _ hzb.out (by kernel_rfl) (Nat.le_of_eq rfl) (by intro v hv; simp only [List.mem_cons, List.not_mem_nil, or_false] at hv; rcases hv with rfl | rfl | rfl | rfl | rfl | rfl | rfl | rfl | rfl | rfl | rfl | rfl | rfl | rfl <;> rfl) ?_))
          have hO := old_put (old_alloc (old_refl wr) (.cells #[Value.int .i64 0, .int .i64 0, .int .i64 0, .int .i64 0, .int .i64 0, .int .u64 0, .int .u64 0, .int .i64 0, .bool false, .bool false, .bool false, .bool false, .bool false, .bool false] 72)) (.cells #[Value.int .i64 okd, .int .i64 ost, .int .i64 owy, .int .i64 oid, .int .i64 oas, .int .u64 (ovp : Nat), .int .u64 (oip : Nat), .int .i64 ofr, .bool op0, .bool op1, .bool op2, .bool os0, .bool os1, .bool os2] 72) (Nat.le_refl wr.heap.size)
          have hnb : (putB (wr.alloc (.cells #[Value.int .i64 0, .int .i64 0, .int .i64 0, .int .i64 0, .int .i64 0, .int .u64 0, .int .u64 0, .int .i64 0, .bool false, .bool false, .bool false, .bool false, .bool false, .bool false] 72)) wr.heap.size (.cells #[Value.int .i64 okd, .int .i64 ost, .int .i64 owy, .int .i64 oid, .int .i64 oas, .int .u64 (ovp : Nat), .int .u64 (oip : Nat), .int .i64 ofr, .bool op0, .bool op1, .bool op2, .bool os0, .bool os1, .bool os2] 72)).heap[wr.heap.size]? = some (.cells #[Value.int .i64 okd, .int .i64 ost, .int .i64 owy, .int .i64 oid, .int .i64 oas, .int .u64 (ovp : Nat), .int .u64 (oip : Nat), .int .i64 ofr, .bool op0, .bool op1, .bool op2, .bool os0, .bool os1, .bool os2] 72) := putB_same _ (by rw [World.size_alloc]; omega)
          have hnB : B ≤ wr.heap.size := HF.out.xB
          have hF := hold_old HF.out hO
          show Code.wp _ _ _ _ (putB (wr.alloc (.cells #[Value.int .i64 0, .int .i64 0, .int .i64 0, .int .i64 0, .int .i64 0, .int .u64 0, .int .u64 0, .int .i64 0, .bool false, .bool false, .bool false, .bool false, .bool false, .bool false] 72)) wr.heap.size (.cells #[Value.int .i64 okd, .int .i64 ost, .int .i64 owy, .int .i64 oid, .int .i64 oas, .int .u64 (ovp : Nat), .int .u64 (oip : Nat), .int .i64 ofr, .bool op0, .bool op1, .bool op2, .bool os0, .bool os1, .bool os2] 72))
          generalize putB (wr.alloc (.cells #[Value.int .i64 0, .int .i64 0, .int .i64 0, .int .i64 0, .int .i64 0, .int .u64 0, .int .u64 0, .int .i64 0, .bool false, .bool false, .bool false, .bool false, .bool false, .bool false] 72)) wr.heap.size (.cells #[Value.int .i64 okd, .int .i64 ost, .int .i64 owy, .int .i64 oid, .int .i64 oas, .int .u64 (ovp : Nat), .int .u64 (oip : Nat), .int .i64 ofr, .bool op0, .bool op1, .bool op2, .bool os0, .bool os1, .bool os2] 72) = W at *
          generalize wr.heap.size = nb at *
          have HB := Lib.hid (And.intro hnb hnB)
          obtain ⟨k1, f1, z1⟩ := of_block hnb
          clear HF HCL hzb hO hnb hnB
          have HF := Lib.hid hF
          clear hF
          obtain ⟨K, hK12, hK⟩ := kind12 okd
          by_cases hK5 : (K : Int) < 5
          · -- a line laid
            obtain ⟨q, T', hpl, hh, ⟨b, t, j, hb, ht, hj, hat⟩, hc⟩ := hold_fill HF.out.tlb HF.out.h ⟨oid, oas, ovp, oip, ofr, op0, op1, op2, os0, os1, os2⟩ owy
            have hfind := fun x (hx : IsTlb x p gs bs n wy T') => find_some hx (kid := oid) (kas := oas) (kvp := ovp) rfl hb ht j _ hat hj
            obtain ⟨on, ⟨qid, qas, qvp, qip, qfr, qp0, qp1, qp2, qs0, qs1, qs2⟩⟩ := q
            dsimp only [Ln.cells] at hc hfind hpl
            have HFd := Lib.hid hfind
            have HPL := Lib.hid hpl
            have HH := Lib.hid hh
            clear hfind hpl hh hb ht hj hat
            go_wp2_with fail
            (with_reducible refine hc.mono ?_)
            rintro e y1 ⟨rfl, hT1, hO1⟩
            have hown1 : OwnLns y1 B u11 last := own_only HF.out.own hO1 (fun b hb hm => by have := (HF.out.bB b hm).2; omega)
            have hnb1 : y1.heap[nb]? = some (.cells #[Value.int .i64 okd, .int .i64 ost, .int .i64 owy, .int .i64 oid, .int .i64 oas, .int .u64 (ovp : Nat), .int .u64 (oip : Nat), .int .i64 ofr, .bool op0, .bool op1, .bool op2, .bool os0, .bool os1, .bool os2] 72) := keep_only hO1 (fun hm => by have := (HF.out.bB nb hm).2; have := HB.out.2; omega) HB.out.1
            have hold1 : Old w y1 := old_stepT HF.out.old hO1 (fun b hb => (HF.out.bB b hb).1)
            have hB1 : B ≤ y1.heap.size := Nat.le_trans HF.out.xB hO1.size
            have HY := Lib.hid (And.intro hT1 (And.intro hown1 (And.intro hnb1 (And.intro hold1 hB1))))
            have HG := Lib.hid (And.intro HF.out.bB (And.intro HF.out.wB HF.out.pB))
            have hzb := Lib.hid (new_block y1 (.cells #[Value.int .i64 0, .int .i64 0, .int .u64 0, .int .u64 0, .int .i64 0, .bool false, .bool false, .bool false, .bool false, .bool false, .bool false] 64))
            clear hT1 hO1 hown1 hnb1 hold1 hB1 k1 f1 z1 hc HF HB
            go_upto_region 13 with (refine wpList_store_at rfl 64 _ _ rfl y1.heap.size 0 [Value.int .i64 qid, .int .i64 qas, .int .u64 (qvp : Nat), .int .u64 (qip : Nat), .int .i64 qfr, .bool qp0, .bool qp1, .bool qp2, .bool qs0, .bool qs1, .bool qs2] rfl rfl 64 _ hzb.out (by kernel_rfl) (Nat.le_of_eq rfl) (by intro v hv; simp only [List.mem_cons, List.not_mem_nil, or_false] at hv; rcases hv with rfl | rfl | rfl | rfl | rfl | rfl | rfl | rfl | rfl | rfl | rfl <;> rfl) ?_)
            have hO := old_put (old_alloc (old_refl y1) (.cells #[Value.int .i64 0, .int .i64 0, .int .u64 0, .int .u64 0, .int .i64 0, .bool false, .bool false, .bool false, .bool false, .bool false, .bool false] 64)) (.cells #[Value.int .i64 qid, .int .i64 qas, .int .u64 (qvp : Nat), .int .u64 (qip : Nat), .int .i64 qfr, .bool qp0, .bool qp1, .bool qp2, .bool qs0, .bool qs1, .bool qs2] 64) (Nat.le_refl y1.heap.size)
            have hrb : (putB (y1.alloc (.cells #[Value.int .i64 0, .int .i64 0, .int .u64 0, .int .u64 0, .int .i64 0, .bool false, .bool false, .bool false, .bool false, .bool false, .bool false] 64)) y1.heap.size (.cells #[Value.int .i64 qid, .int .i64 qas, .int .u64 (qvp : Nat), .int .u64 (qip : Nat), .int .i64 qfr, .bool qp0, .bool qp1, .bool qp2, .bool qs0, .bool qs1, .bool qs2] 64)).heap[y1.heap.size]? = some (.cells #[Value.int .i64 qid, .int .i64 qas, .int .u64 (qvp : Nat), .int .u64 (qip : Nat), .int .i64 qfr, .bool qp0, .bool qp1, .bool qp2, .bool qs0, .bool qs1, .bool qs2] 64) := putB_same _ (by rw [World.size_alloc]; omega)
            show Code.wp _ _ _ _ (putB (y1.alloc (.cells #[Value.int .i64 0, .int .i64 0, .int .u64 0, .int .u64 0, .int .i64 0, .bool false, .bool false, .bool false, .bool false, .bool false, .bool false] 64)) y1.heap.size (.cells #[Value.int .i64 qid, .int .i64 qas, .int .u64 (qvp : Nat), .int .u64 (qip : Nat), .int .i64 qfr, .bool qp0, .bool qp1, .bool qp2, .bool qs0, .bool qs1, .bool qs2] 64))
            generalize putB (y1.alloc (.cells #[Value.int .i64 0, .int .i64 0, .int .u64 0, .int .u64 0, .int .i64 0, .bool false, .bool false, .bool false, .bool false, .bool false, .bool false] 64)) y1.heap.size (.cells #[Value.int .i64 qid, .int .i64 qas, .int .u64 (qvp : Nat), .int .u64 (qip : Nat), .int .i64 qfr, .bool qp0, .bool qp1, .bool qp2, .bool qs0, .bool qs1, .bool qs2] 64) = y2 at *
            generalize y1.heap.size = rb at *
            have hnb2 := keep_old hO HY.out.2.2.1
            have hc := HFd.out y2 (tlb_old HY.out.1 hO)
            obtain ⟨k1, f1, z1⟩ := of_block hnb2
            have HO2 := Lib.hid (And.intro hO (And.intro hrb hnb2))
            clear hO hrb hnb2 hzb HFd
            go_wp2_with fail
            (with_reducible refine hc.mono ?_)
            rintro e y3 ⟨rfl, hO3⟩
            have hzb := Lib.hid (new_block y3 (.cells #[Value.int .i64 0, .int .i64 0, .int .u64 0, .int .u64 0, .int .i64 0, .bool false, .bool false, .bool false, .bool false, .bool false, .bool false] 64))
            have HO3 := Lib.hid hO3
            clear hc k1 f1 z1 hO3
            go_upto_region 14 with (refine wpList_store_at rfl 64 _ _ rfl y3.heap.size 0 [Value.int .i64 oid, .int .i64 oas, .int .u64 (ovp : Nat), .int .u64 (oip : Nat), .int .i64 ofr, .bool op0, .bool op1, .bool op2, .bool os0, .bool os1, .bool os2] rfl rfl 64 _ hzb.out (by kernel_rfl) (Nat.le_of_eq rfl) (by intro v hv; simp only [List.mem_cons, List.not_mem_nil, or_false] at hv; rcases hv with rfl | rfl | rfl | rfl | rfl | rfl | rfl | rfl | rfl | rfl | rfl <;> rfl) ?_)
            have hO := old_put (old_alloc (old_refl y3) (.cells #[Value.int .i64 0, .int .i64 0, .int .u64 0, .int .u64 0, .int .i64 0, .bool false, .bool false, .bool false, .bool false, .bool false, .bool false] 64)) (.cells #[Value.int .i64 oid, .int .i64 oas, .int .u64 (ovp : Nat), .int .u64 (oip : Nat), .int .i64 ofr, .bool op0, .bool op1, .bool op2, .bool os0, .bool os1, .bool os2] 64) (Nat.le_refl y3.heap.size)
            have hxb : (putB (y3.alloc (.cells #[Value.int .i64 0, .int .i64 0, .int .u64 0, .int .u64 0, .int .i64 0, .bool false, .bool false, .bool false, .bool false, .bool false, .bool false] 64)) y3.heap.size (.cells #[Value.int .i64 oid, .int .i64 oas, .int .u64 (ovp : Nat), .int .u64 (oip : Nat), .int .i64 ofr, .bool op0, .bool op1, .bool op2, .bool os0, .bool os1, .bool os2] 64)).heap[y3.heap.size]? = some (.cells #[Value.int .i64 oid, .int .i64 oas, .int .u64 (ovp : Nat), .int .u64 (oip : Nat), .int .i64 ofr, .bool op0, .bool op1, .bool op2, .bool os0, .bool os1, .bool os2] 64) := putB_same _ (by rw [World.size_alloc]; omega)
            show Code.wp _ _ _ _ (putB (y3.alloc (.cells #[Value.int .i64 0, .int .i64 0, .int .u64 0, .int .u64 0, .int .i64 0, .bool false, .bool false, .bool false, .bool false, .bool false, .bool false] 64)) y3.heap.size (.cells #[Value.int .i64 oid, .int .i64 oas, .int .u64 (ovp : Nat), .int .u64 (oip : Nat), .int .i64 ofr, .bool op0, .bool op1, .bool op2, .bool os0, .bool os1, .bool os2] 64))
            generalize putB (y3.alloc (.cells #[Value.int .i64 0, .int .i64 0, .int .u64 0, .int .u64 0, .int .i64 0, .bool false, .bool false, .bool false, .bool false, .bool false, .bool false] 64)) y3.heap.size (.cells #[Value.int .i64 oid, .int .i64 oas, .int .u64 (ovp : Nat), .int .u64 (oip : Nat), .int .i64 ofr, .bool op0, .bool op1, .bool op2, .bool os0, .bool os1, .bool os2] 64) = y4 at *
            generalize y3.heap.size = xb at *
            have hO4 := old_then HO3.out hO
            have h1 := keep_old hO4 HO2.out.2.2
            have h2 := keep_old hO4 HO2.out.2.1
            obtain ⟨k1, f1, z1⟩ := of_block h1
            obtain ⟨k2, f2, z2⟩ := of_block h2
            obtain ⟨k3, f3, z3⟩ := of_block hxb
            have hO5 := old_then HO2.out.1 hO4
            have hown4 := own_old HY.out.2.1 hO5
            have HE := Lib.hid (And.intro (tlb_old HY.out.1 hO5) (And.intro (old_then HY.out.2.2.2.1 hO5) (Nat.le_trans HY.out.2.2.2.2 (Nat.le_trans (Nat.le_of_lt (lt_of_block HO2.out.2.1)) hO4.size))))
            clear hO hO4 hO5 h1 h2 hxb hzb HO2 HO3
            have heq : (Op.equalIn 10000 64 (.agg #[Value.int .i64 oid, .int .i64 oas, .int .u64 (ovp : Nat), .int .u64 (oip : Nat), .int .i64 ofr, .bool op0, .bool op1, .bool op2, .bool os0, .bool os1, .bool os2]) (.agg #[Value.int .i64 oid, .int .i64 oas, .int .u64 (ovp : Nat), .int .u64 (oip : Nat), .int .i64 ofr, .bool op0, .bool op1, .bool op2, .bool os0, .bool os1, .bool os2])).run Try.prog y4.drew = .ok true y4.drew := by
              have := eq_line ⟨oid, oas, ovp, oip, ofr, op0, op1, op2, os0, os1, os2⟩ ⟨oid, oas, ovp, oip, ofr, op0, op1, op2, os0, os1, os2⟩ y4.drew
              rw [(lnB_iff _ _).2 rfl] at this
              exact this
            have hnn : ¬ (n : Int) = 0 := by omega
            have hnw : IntKind.u64.wrap (n : Int) = n := IntWalk.u64_in _ (by omega)
            have HO4 := Lib.hid hown4
            clear hown4
            refine wp_cutF [false, false, false, false, false, false, false, false, false, false, false, false, false, false, false, false, false, false, false, false, true, false, false, false, false, false, false, false, false, false, false, false, false, false, false, false, false, false, false, false, false, false, false, false, false, false, false, false, false, false, true, true, true, true, true, true, true, true, true, true, true, true, true, true, true, true, true, true, true, true, true, true, true, true, true, true, true, true, true, true, true, true, true, true, true, true, true, true, true, true, true, true, true, true, true, true, true, true, true, true, true, true, true, true, true, true, true, true, true, true, true, true, true, true, true, true, true, true, true, true, true, true, true, true, false, true, true, true, true, true, true, false, true, true, true, true, true, true, true, true, true, true, true, true, true, true, true, true, true, true, true, true, true, true, true, true, true, true, true, true, true, true, true, false, true, true, true, true, true, true, true, true, true, false, true, true, true, true, true, true] (fun f wx => f 118 = .bool false ∧ wx = y4.drew) ?rest3 ?first3
            case first3 =>
              intro J3 K3 hJ3 hM3
              obtain ⟨b2, hb2⟩ : ∃ b2 : Bool, ((qvp : Int) % (n : Int) != (ovp : Int) % (n : Int)) = b2 := ⟨_, rfl⟩
              refine wp_region_walked (S := Is y4.drew) (by kernel_rfl) (by kernel_rfl) rfl ?_
              apply walked_cons
              · intro wS hS; cases hS; go_wp2; exact ⟨rfl, rfl, rfl⟩
              · rfl
              (try simp only [Act.put, List.setIfInBounds_toArray, List.set_cons_succ, List.set_cons_zero])
              apply walked_cons
              · intro wS hS; cases hS; go_wp2; exact ⟨rfl, rfl, rfl⟩
              · rfl
              (try simp only [Act.put, List.setIfInBounds_toArray, List.set_cons_succ, List.set_cons_zero])
              apply walked_cons
              · intro wS hS; cases hS; go_wp2; exact ⟨rfl, rfl, rfl⟩
              · rfl
              (try simp only [Act.put, List.setIfInBounds_toArray, List.set_cons_succ, List.set_cons_zero])
              apply walked_cons
              · intro wS hS; cases hS; go_wp2; exact ⟨rfl, rfl, rfl⟩
              · rfl
              (try simp only [Act.put, List.setIfInBounds_toArray, List.set_cons_succ, List.set_cons_zero])
              apply walked_cons
              · intro wS hS; cases hS; go_wp2; exact ⟨rfl, rfl, rfl⟩
              · rfl
              (try simp only [Act.put, List.setIfInBounds_toArray, List.set_cons_succ, List.set_cons_zero])
              apply walked_cons
              · intro wS hS; cases hS; go_wp2; exact ⟨rfl, rfl, rfl⟩
              · rfl
              (try simp only [Act.put, List.setIfInBounds_toArray, List.set_cons_succ, List.set_cons_zero])
              apply walked_cons
              · intro wS hS; cases hS; go_wp2; exact ⟨rfl, rfl, rfl⟩
              · rfl
              (try simp only [Act.put, List.setIfInBounds_toArray, List.set_cons_succ, List.set_cons_zero])
              apply walked_cons
              · intro wS hS; cases hS; go_wp2; exact ⟨rfl, rfl, rfl⟩
              · rfl
              (try simp only [Act.put, List.setIfInBounds_toArray, List.set_cons_succ, List.set_cons_zero])
              apply walked_cons
              · intro wS hS; cases hS; go_wp2; exact ⟨rfl, rfl, rfl⟩
              · rfl
              (try simp only [Act.put, List.setIfInBounds_toArray, List.set_cons_succ, List.set_cons_zero])
              apply walked_cons
              · intro wS hS; cases hS; go_wp2; exact ⟨rfl, rfl, rfl⟩
              · rfl
              (try simp only [Act.put, List.setIfInBounds_toArray, List.set_cons_succ, List.set_cons_zero])
              apply walked_cons
              · intro wS hS; cases hS; go_wp2; exact ⟨rfl, rfl, rfl⟩
              · rfl
              (try simp only [Act.put, List.setIfInBounds_toArray, List.set_cons_succ, List.set_cons_zero])
              apply walked_cons
              · apply gives_guard
                · (first | exact wanted_yes rfl rfl rfl | exact wanted_no rfl rfl rfl | exact wanted_yes2 rfl rfl rfl | exact wanted_no2 rfl rfl rfl)
                · intro hx9
                  (try simp only [Bool.not_eq_true', Bool.and_eq_true, Bool.not_not] at hx9); (try obtain ⟨hx9, hy9⟩ := hx9); (try subst hy9); (try subst hx9)
                  intro wS hS; cases hS; go_wp2; exact ⟨rfl, rfl, rfl⟩
              · rfl
              (try simp only [Act.put, List.setIfInBounds_toArray, List.set_cons_succ, List.set_cons_zero])
              apply walked_cons
              · apply gives_guard
                · (first | exact wanted_yes rfl rfl rfl | exact wanted_no rfl rfl rfl | exact wanted_yes2 rfl rfl rfl | exact wanted_no2 rfl rfl rfl)
                · intro hx9
                  (try simp only [Bool.not_eq_true', Bool.and_eq_true, Bool.not_not] at hx9); (try obtain ⟨hx9, hy9⟩ := hx9); (try subst hy9); (try subst hx9)
                  intro wS hS; cases hS; go_wp2; exact ⟨rfl, rfl, rfl⟩
              · rfl
              (try simp only [Act.put, List.setIfInBounds_toArray, List.set_cons_succ, List.set_cons_zero])
              apply walked_cons
              · apply gives_guard
                · (first | exact wanted_yes rfl rfl rfl | exact wanted_no rfl rfl rfl | exact wanted_yes2 rfl rfl rfl | exact wanted_no2 rfl rfl rfl)
                · intro hx9
                  (try simp only [Bool.not_eq_true', Bool.and_eq_true, Bool.not_not] at hx9); (try obtain ⟨hx9, hy9⟩ := hx9); (try subst hy9); (try subst hx9)
                  intro wS hS; cases hS; go_wp2; exact ⟨rfl, rfl, rfl⟩
              · rfl
              (try simp only [Act.put, List.setIfInBounds_toArray, List.set_cons_succ, List.set_cons_zero])
              apply walked_cons
              · apply gives_guard
                · (first | exact wanted_yes rfl rfl rfl | exact wanted_no rfl rfl rfl | exact wanted_yes2 rfl rfl rfl | exact wanted_no2 rfl rfl rfl)
                · intro hx9
                  (try simp only [Bool.not_eq_true', Bool.and_eq_true, Bool.not_not] at hx9); (try obtain ⟨hx9, hy9⟩ := hx9); (try subst hy9); (try subst hx9)
                  intro wS hS; cases hS; go_wp2; exact ⟨rfl, rfl, rfl⟩
              · rfl
              (try simp only [Act.put, List.setIfInBounds_toArray, List.set_cons_succ, List.set_cons_zero])
              apply walked_cons
              · apply gives_guard
                · (first | exact wanted_yes rfl rfl rfl | exact wanted_no rfl rfl rfl | exact wanted_yes2 rfl rfl rfl | exact wanted_no2 rfl rfl rfl)
                · intro hx9
                  (try simp only [Bool.not_eq_true', Bool.and_eq_true, Bool.not_not] at hx9); (try obtain ⟨hx9, hy9⟩ := hx9); (try subst hy9); (try subst hx9)
                  intro wS hS; cases hS; go_wp2; exact ⟨rfl, rfl, rfl⟩
              · rfl
              (try simp only [Act.put, List.setIfInBounds_toArray, List.set_cons_succ, List.set_cons_zero])
              apply walked_cons
              · apply gives_guard
                · (first | exact wanted_yes rfl rfl rfl | exact wanted_no rfl rfl rfl | exact wanted_yes2 rfl rfl rfl | exact wanted_no2 rfl rfl rfl)
                · intro hx9
                  (try simp only [Bool.not_eq_true', Bool.and_eq_true, Bool.not_not] at hx9); (try obtain ⟨hx9, hy9⟩ := hx9); (try subst hy9); (try subst hx9)
                  intro wS hS; cases hS; go_wp2; exact ⟨rfl, rfl, rfl⟩
              · rfl
              (try simp only [Act.put, List.setIfInBounds_toArray, List.set_cons_succ, List.set_cons_zero])
              apply walked_cons
              · apply gives_guard
                · (first | exact wanted_yes rfl rfl rfl | exact wanted_no rfl rfl rfl | exact wanted_yes2 rfl rfl rfl | exact wanted_no2 rfl rfl rfl)
                · intro hx9
                  (try simp only [Bool.not_eq_true', Bool.and_eq_true, Bool.not_not] at hx9); (try obtain ⟨hx9, hy9⟩ := hx9); (try subst hy9); (try subst hx9)
                  intro wS hS; cases hS; go_wp2; exact ⟨rfl, rfl, rfl⟩
              · rfl
              (try simp only [Act.put, List.setIfInBounds_toArray, List.set_cons_succ, List.set_cons_zero])
              apply walked_cons
              · apply gives_guard
                · (first | exact wanted_yes rfl rfl rfl | exact wanted_no rfl rfl rfl | exact wanted_yes2 rfl rfl rfl | exact wanted_no2 rfl rfl rfl)
                · intro hx9
                  (try simp only [Bool.not_eq_true', Bool.and_eq_true, Bool.not_not] at hx9); (try obtain ⟨hx9, hy9⟩ := hx9); (try subst hy9); (try subst hx9)
                  intro wS hS; cases hS; go_wp2; exact ⟨rfl, rfl, rfl⟩
              · rfl
              (try simp only [Act.put, List.setIfInBounds_toArray, List.set_cons_succ, List.set_cons_zero])
              apply walked_cons
              · apply gives_guard
                · (first | exact wanted_yes rfl rfl rfl | exact wanted_no rfl rfl rfl | exact wanted_yes2 rfl rfl rfl | exact wanted_no2 rfl rfl rfl)
                · intro hx9
                  (try simp only [Bool.not_eq_true', Bool.and_eq_true, Bool.not_not] at hx9); (try obtain ⟨hx9, hy9⟩ := hx9); (try subst hy9); (try subst hx9)
                  intro wS hS; cases hS; go_wp2; exact ⟨rfl, rfl, rfl⟩
              · rfl
              (try simp only [Act.put, List.setIfInBounds_toArray, List.set_cons_succ, List.set_cons_zero])
              apply walked_cons
              · apply gives_guard
                · (first | exact wanted_yes rfl rfl rfl | exact wanted_no rfl rfl rfl | exact wanted_yes2 rfl rfl rfl | exact wanted_no2 rfl rfl rfl)
                · intro hx9
                  (try simp only [Bool.not_eq_true', Bool.and_eq_true, Bool.not_not] at hx9); (try obtain ⟨hx9, hy9⟩ := hx9); (try subst hy9); (try subst hx9)
                  intro wS hS; cases hS; go_wp2; exact ⟨rfl, rfl, rfl⟩
              · rfl
              (try simp only [Act.put, List.setIfInBounds_toArray, List.set_cons_succ, List.set_cons_zero])
              apply walked_cons
              · apply gives_guard
                · (first | exact wanted_yes rfl rfl rfl | exact wanted_no rfl rfl rfl | exact wanted_yes2 rfl rfl rfl | exact wanted_no2 rfl rfl rfl)
                · intro hx9
                  (try simp only [Bool.not_eq_true', Bool.and_eq_true, Bool.not_not] at hx9); (try obtain ⟨hx9, hy9⟩ := hx9); (try subst hy9); (try subst hx9)
                  intro wS hS; cases hS; go_wp2; exact ⟨rfl, rfl, rfl⟩
              · rfl
              (try simp only [Act.put, List.setIfInBounds_toArray, List.set_cons_succ, List.set_cons_zero])
              apply walked_cons
              · apply gives_guard
                · (first | exact wanted_yes rfl rfl rfl | exact wanted_no rfl rfl rfl | exact wanted_yes2 rfl rfl rfl | exact wanted_no2 rfl rfl rfl)
                · intro hx9
                  (try simp only [Bool.not_eq_true', Bool.and_eq_true, Bool.not_not] at hx9); (try obtain ⟨hx9, hy9⟩ := hx9); (try subst hy9); (try subst hx9)
                  intro wS hS; cases hS; go_wp2; exact ⟨rfl, rfl, rfl⟩
              · rfl
              (try simp only [Act.put, List.setIfInBounds_toArray, List.set_cons_succ, List.set_cons_zero])
              apply walked_cons
              · apply gives_guard
                · (first | exact wanted_yes rfl rfl rfl | exact wanted_no rfl rfl rfl | exact wanted_yes2 rfl rfl rfl | exact wanted_no2 rfl rfl rfl)
                · intro hx9
                  (try simp only [Bool.not_eq_true', Bool.and_eq_true, Bool.not_not] at hx9); (try obtain ⟨hx9, hy9⟩ := hx9); (try subst hy9); (try subst hx9)
                  exact gives_and rfl rfl rfl rfl
              · rfl
              (try simp only [Act.put, List.setIfInBounds_toArray, List.set_cons_succ, List.set_cons_zero])
              apply walked_cons
              · intro wS hS; cases hS; go_wp2; exact ⟨rfl, rfl, rfl⟩
              · rfl
              (try simp only [Act.put, List.setIfInBounds_toArray, List.set_cons_succ, List.set_cons_zero])
              apply walked_nil
              intro wS hS
              cases hS
              go_wp2
              refine Met.intro (hJ3 _ _ (by kernel_rfl) ⟨?_, rfl⟩)
              show Value.bool _ = _
              cases on
              · simp
              · have h9 := HPL.out rfl
                rw [← hb2]
                have h8 : (qvp : Int) % (n : Int) = (ovp : Int) % (n : Int) := by omega
                rw [h8]
                simp
            case rest3 =>
            intro f3' wx hcut
            dsimp only [mergeA, mergeL, Nat.reduceAdd]
            obtain ⟨h118, rfl⟩ := hcut
            rw [h118]
            clear h118 heq hnn hnw k2 f2 z2 k3 f3 z3
            have hL5 : last.length ≤ 1000 := by have := HLL.out; omega
            obtain ⟨v', w5, hrun, hown5, hgr⟩ := line_append B y4.drew _ last ⟨oid, oas, ovp, oip, ofr, op0, op1, op2, os0, os1, os2⟩ hL5 HE.out.2.2 (own_old HO4.out (old_drew (old_refl _)))
            obtain ⟨ad2, c2, rfl, -⟩ := own_value HO4.out
            have hLn : (last.length : Int) ≤ 1000 := by omega
            have HA := Lib.hid (And.intro hown5 hgr)
            clear hown5 hgr hL5
            go_wp2_with (at_builtin; refine wpList_append_run rfl _ _ 59 rfl _ _ rfl rfl _ _ hrun ?_; clear hrun; (try simp only [Act.put, List.setIfInBounds_toArray, List.set_cons_succ, List.set_cons_zero]))
            refine Met.intro (hJ2 _ _ (by kernel_rfl) ?_ ?_)
            · obtain ⟨hbB, hwB, hpB, hgB⟩ := HG.out
              have hll := HLI.out
              refine ⟨i + 1, T', last ++ [⟨oid, oas, ovp, oip, ofr, op0, op1, op2, os0, os1, os2⟩], HLT.out.1, HLT.out.2, by rw [List.length_append, List.length_singleton]; omega, by show Value.int .i64 ((i : Int) + 1) = _; simp, ?_⟩
              exact { tlb := tlb_only (tlb_old HE.out.1 (old_drew (old_refl _))) HA.out.2 (by omega) (by omega) (fun b hm => by have := (hbB b hm).2; omega), h := HH.out, own := HA.out.1, old := old_stepT (old_then HE.out.2.1 (old_drew (old_refl _))) HA.out.2 (fun b hb => Nat.le_trans hwB hb), bB := hbB, wB := hwB, pB := ⟨hpB, hgB⟩, xB := Nat.le_trans HE.out.2.2 HA.out.2.size }
            · rw [H12.out]
              show l.length - (intOf (Value.int .i64 ((i : Int) + 1))).toNat < l.length - (intOf (Value.int .i64 (i : Int))).toNat
              have := HLT.out.1
              simp [intOf]
              omega
          · have hb5 : ¬ (K : Int) < 5 := hK5
            by_cases h7 : K = 7
            · subst h7
              have hc := IDLose_calls HF.out.tlb oid
              go_wp2_with fail
              (with_reducible refine hc.mono ?_)
              rintro e y1 ⟨rfl, hT1, hO1⟩
              have hF1 := hold_lost HF.out hO1 hT1 (holds_lose HF.out.h (idB oid))
              have hnb1 : y1.heap[nb]? = some (.cells #[Value.int .i64 okd, .int .i64 ost, .int .i64 owy, .int .i64 oid, .int .i64 oas, .int .u64 (ovp : Nat), .int .u64 (oip : Nat), .int .i64 ofr, .bool op0, .bool op1, .bool op2, .bool os0, .bool os1, .bool os2] 72) := keep_only hO1 (fun hm => by have := (HF.out.bB nb hm).2; have := HB.out.2; omega) HB.out.1
              obtain ⟨ad2, c2, rfl, -, -, -, q1⟩ := own_value hF1.own
              have hgone := fun i t j q => gone_lose (T := T) (idB oid) i t j q
              clear hT1
              generalize T.map (fun t => t.map (loseP (idB oid))) = T1 at *
              have hBnb := HB.out.2
              have HR := Lib.hid (And.intro hF1 (And.intro hnb1 (And.intro q1 (And.intro hgone hBnb))))
              have hL5 : (last.length : Int) ≤ 1000 := by have := HLL.out; omega
              clear hc hO1 hF1 hnb1 q1 hgone hBnb HF HB k1 f1 z1
              go_wp2
              refine wp_loopF [false, false, false, false, false, false, true, false, false, false, false, false, false, false, false, false, false, false, false, true, true, true, false, false, false, false, false, false, false, false, false, false, false, false, false, false, false, false, false, false, false, false, false, false, false, false, false, false, false, false, false, false, false, false, false, false, false, false, false, false, false, false, false, false, false, false, false, false, false, false, false, false, false, false, false, false, false, false, false, false, false, false, false, false, false, false, false, false, false, false, false, false, false, false, false, false, false, false, false, false, false, false, false, false, false, false, false, false, false, false, false, false, false, false, false, false, false, false, false, false, false, false, false, false, false, false, false, false, false, false, false, false, false, false, false, false, false, false, true, true, true, true, true, true, true, true, true, true, true, true, true, true, true, true, true, true, true, true, true, true, true, true, true] (fun f wx => ∃ j : Nat, j ≤ last.length ∧ f 19 = .int .i64 (j : Nat) ∧ HoldAt w B p gs bs n wy T1 last (.slice ad2 last.length c2) wx ∧ wx.heap[nb]? = some (.cells #[Value.int .i64 okd, .int .i64 ost, .int .i64 owy, .int .i64 oid, .int .i64 oas, .int .u64 (ovp : Nat), .int .u64 (oip : Nat), .int .i64 ofr, .bool op0, .bool op1, .bool op2, .bool os0, .bool os1, .bool os2] 72)) (fun f => last.length - (intOf (f 19)).toNat) ?start4 ?round4
              case start4 => exact ⟨0, by omega, rfl, HR.out.1, HR.out.2.1⟩
              case round4 =>
                intro f4 wq hrel J4 K4 hJ4 hM4
                dsimp only [mergeA, mergeL, Nat.reduceAdd]
                obtain ⟨j, hj, h19, hF, hnb⟩ := hrel
                rw [h19]
                have HF := Lib.hid hF
                have HNB := Lib.hid hnb
                have H19 := Lib.hid h19
                clear hF hnb h19
                by_cases hjl : j = last.length
                · have e1 : ¬ (j : Int) < last.length := by omega
                  clear hjl hj
                  go_wp2
                  refine Met.intro (hJ2 _ _ (by kernel_rfl) ?_ ?_)
                  · exact ⟨i + 1, _, last, HLT.out.1, HLT.out.2, Nat.le_succ_of_le HLI.out, by show Value.int .i64 ((i : Int) + 1) = _; simp, HF.out⟩
                  · rw [H12.out]
                    show l.length - (intOf (Value.int .i64 ((i : Int) + 1))).toNat < l.length - (intOf (Value.int .i64 (i : Int))).toNat
                    have := HLT.out.1
                    simp [intOf]
                    omega
                · have e1 : (j : Int) < last.length := by omega
                  have hjlt : j < last.length := by omega
                  obtain ⟨a, ha⟩ : ∃ a, last[j]? = some a := ⟨_, List.getElem?_eq_getElem hjlt⟩
                  obtain ⟨gl, rfl⟩ := HR.out.2.2.1 (by omega)
                  obtain ⟨hglB, hglx⟩ := HF.out.own.lt gl rfl
                  have hca : ∀ (cc : Nat) (u : Value), a.cells[cc]? = some u → wq.cell? ⟨gl, j * 11 + cc, none⟩ = some u := fun cc u hu => own_cell HF.out.own rfl _ (flatC_get ln_len last j a cc u ha hu)
                  have hc1 : wq.cell? ⟨gl, j * 11 + 1, none⟩ = some (.int .i64 a.asid) := hca 1 _ rfl
                  have hc2 : wq.cell? ⟨gl, j * 11 + 2, none⟩ = some (.int .u64 (a.vp : Nat)) := hca 2 _ rfl
                  obtain ⟨b, t, hb, ht, _⟩ := tlb_block HF.out.tlb (i := a.vp % n) (Nat.mod_lt _ HN.out.1.1)
                  have hnone : atP oid a.asid a.vp t 0 = -1 := at_none (fun jj q h1 h2 => by
                    have := HR.out.2.2.2.1 _ t jj q ht h1 h2
                    have hne : ¬ q.l.id = oid := by simpa [idB] using this
                    unfold keyB
                    rw [show (q.l.id == oid) = false from by simpa using hne]
                    rfl)
                  have hfind := fun x (hx : IsTlb x p gs bs n wy T1) => find_none hx (kid := oid) (kas := a.asid) (kvp := a.vp) rfl hb ht hnone
                  have HFd := Lib.hid hfind
                  have Hc : ∀ (v : Value) (l : Array Bool) (x : World), FreeS 14 18 19 wq.drew p gs bs n wy T1 T1 #[Value.int .i64 0, .int .i64 0, .int .u64 0, .int .u64 0, .int .i64 0, .bool false, .bool false, .bool false, .bool false, .bool false, .bool false] #[Value.int .i64 0, .int .i64 0, .int .u64 0, .int .u64 0, .int .i64 0, .bool false, .bool false, .bool false, .bool false, .bool false, .bool false] 64 v l x → (∀ k, x.cell? ⟨nb, k, none⟩ = #[Value.int .i64 okd, .int .i64 ost, .int .i64 owy, .int .i64 oid, .int .i64 oas, .int .u64 (ovp : Nat), .int .u64 (oip : Nat), .int .i64 ofr, .bool op0, .bool op1, .bool op2, .bool os0, .bool os1, .bool os2][k]?) ∧ x.cell? ⟨gl, j * 11 + 1, none⟩ = some (.int .i64 a.asid) ∧ x.cell? ⟨gl, j * 11 + 2, none⟩ = some (.int .u64 (a.vp : Nat)) ∧ True := by
                    intro v l x hS
                    have hbs := HF.out.bB
                    refine ⟨fun k => ?_, ?_, ?_, trivial⟩
                    · exact freeS_cell hS (lt_of_block HNB.out) (fun hm => by have := (hbs nb hm).2; have := HR.out.2.2.2.2; omega) (cell_of (w := wq.drew) HNB.out k)
                    · exact freeS_cell hS hglx (fun hm => by have := (hbs gl hm).2; omega) hc1
                    · exact freeS_cell hS hglx (fun hm => by have := (hbs gl hm).2; omega) hc2
                  have HC := Lib.hid Hc
                  have HJL := Lib.hid hjlt
                  clear hjl hj hjlt ha hca hc1 hc2 hb ht hnone hfind Hc hglB hglx
                  go_upto_region 24 with (fail)
                  obtain ⟨SS, hSS⟩ : ∃ SS : Value → Array Bool → World → Prop, SS = fun v l x => FreeS 14 18 19 wq.drew p gs bs n wy T1 T1 #[Value.int .i64 0, .int .i64 0, .int .u64 0, .int .u64 0, .int .i64 0, .bool false, .bool false, .bool false, .bool false, .bool false, .bool false] #[Value.int .i64 0, .int .i64 0, .int .u64 0, .int .u64 0, .int .i64 0, .bool false, .bool false, .bool false, .bool false, .bool false, .bool false] 64 v l x := ⟨_, rfl⟩
                  have HSS := Lib.hid hSS
                  clear hSS
                  refine wp_region_free (S := SS) 18 20 _ rfl (by decide) rfl (.cells #[Value.int .i64 0, .int .i64 0, .int .u64 0, .int .u64 0, .int .i64 0, .bool false, .bool false, .bool false, .bool false, .bool false, .bool false] 64) (by intro b x; simp [execOp, go_sem]) (fun v l x hz hn hS => by rw [HSS.out] at hS ⊢; exact freeS_alloc hz (by decide) (by decide) (by decide) hn hS) (by kernel_rfl) (by kernel_rfl) (by kernel_rfl) (by decide) undef (by rw [HSS.out]; exact freeS_start (tlb_old HF.out.tlb (old_drew (old_refl _)))) ?_
                  apply walkedF_step _ (.pointer (some ⟨p, 0, none⟩))
                  rotate_left 2
                  · intro v l9 wS hz hn hm hS
                    rw [HSS.out] at hS
                    have hS9 := freeS_other 0 (by decide) (by decide) (by decide) hS
                    obtain ⟨cA, cB, cC, cD⟩ := HC.out v l9 wS hS
                    clear hS hm
                    go_wp2
                    exact ⟨rfl, rfl, by rw [HSS.out]; exact hS9⟩
                  rotate_left
                  · intro v; kernel_rfl
                  · decide
                  apply walkedF_step _ (.pointer (some ⟨nb, 3, none⟩))
                  rotate_left 2
                  · intro v l9 wS hz hn hm hS
                    rw [HSS.out] at hS
                    have hS9 := freeS_other 1 (by decide) (by decide) (by decide) hS
                    obtain ⟨cA, cB, cC, cD⟩ := HC.out v l9 wS hS
                    clear hS hm
                    go_wp2
                    exact ⟨rfl, rfl, by rw [HSS.out]; exact hS9⟩
                  rotate_left
                  · intro v; kernel_rfl
                  · decide
                  apply walkedF_step _ (.pointer (some ⟨nb, 3, none⟩))
                  rotate_left 2
                  · intro v l9 wS hz hn hm hS
                    rw [HSS.out] at hS
                    have hS9 := freeS_other 2 (by decide) (by decide) (by decide) hS
                    obtain ⟨cA, cB, cC, cD⟩ := HC.out v l9 wS hS
                    clear hS hm
                    go_wp2
                    exact ⟨rfl, rfl, by rw [HSS.out]; exact hS9⟩
                  rotate_left
                  · intro v; kernel_rfl
                  · decide
                  apply walkedF_step _ (.int .i64 oid)
                  rotate_left 2
                  · intro v l9 wS hz hn hm hS
                    rw [HSS.out] at hS
                    have hS9 := freeS_other 3 (by decide) (by decide) (by decide) hS
                    obtain ⟨cA, cB, cC, cD⟩ := HC.out v l9 wS hS
                    clear hS hm
                    go_wp2
                    exact ⟨rfl, rfl, by rw [HSS.out]; exact hS9⟩
                  rotate_left
                  · intro v; kernel_rfl
                  · decide
                  apply walkedF_step _ (.slice (some ⟨gl, 0, none⟩) last.length c2)
                  rotate_left 2
                  · intro v l9 wS hz hn hm hS
                    rw [HSS.out] at hS
                    have hS9 := freeS_other 4 (by decide) (by decide) (by decide) hS
                    obtain ⟨cA, cB, cC, cD⟩ := HC.out v l9 wS hS
                    clear hS hm
                    go_wp2
                    exact ⟨rfl, rfl, by rw [HSS.out]; exact hS9⟩
                  rotate_left
                  · intro v; kernel_rfl
                  · decide
                  apply walkedF_step _ (.int .i64 (j : Nat))
                  rotate_left 2
                  · intro v l9 wS hz hn hm hS
                    rw [HSS.out] at hS
                    have hS9 := freeS_other 5 (by decide) (by decide) (by decide) hS
                    obtain ⟨cA, cB, cC, cD⟩ := HC.out v l9 wS hS
                    clear hS hm
                    go_wp2
                    exact ⟨rfl, rfl, by rw [HSS.out]; exact hS9⟩
                  rotate_left
                  · intro v; kernel_rfl
                  · decide
                  apply walkedF_step _ (.pointer (some ⟨gl, j * 11, none⟩))
                  rotate_left 2
                  · intro v l9 wS hz hn hm hS
                    rw [HSS.out] at hS
                    have hS9 := freeS_other 6 (by decide) (by decide) (by decide) hS
                    obtain ⟨cA, cB, cC, cD⟩ := HC.out v l9 wS hS
                    clear hS hm
                    go_wp2
                    exact ⟨rfl, rfl, by rw [HSS.out]; exact hS9⟩
                  rotate_left
                  · intro v; kernel_rfl
                  · decide
                  apply walkedF_step _ (.pointer (some ⟨gl, j * 11 + 1, none⟩))
                  rotate_left 2
                  · intro v l9 wS hz hn hm hS
                    rw [HSS.out] at hS
                    have hS9 := freeS_other 7 (by decide) (by decide) (by decide) hS
                    obtain ⟨cA, cB, cC, cD⟩ := HC.out v l9 wS hS
                    clear hS hm
                    go_wp2
                    exact ⟨rfl, rfl, by rw [HSS.out]; exact hS9⟩
                  rotate_left
                  · intro v; kernel_rfl
                  · decide
                  apply walkedF_step _ (.int .i64 a.asid)
                  rotate_left 2
                  · intro v l9 wS hz hn hm hS
                    rw [HSS.out] at hS
                    have hS9 := freeS_other 8 (by decide) (by decide) (by decide) hS
                    obtain ⟨cA, cB, cC, cD⟩ := HC.out v l9 wS hS
                    clear hS hm
                    go_wp2
                    exact ⟨rfl, rfl, by rw [HSS.out]; exact hS9⟩
                  rotate_left
                  · intro v; kernel_rfl
                  · decide
                  apply walkedF_step _ (.slice (some ⟨gl, 0, none⟩) last.length c2)
                  rotate_left 2
                  · intro v l9 wS hz hn hm hS
                    rw [HSS.out] at hS
                    have hS9 := freeS_other 9 (by decide) (by decide) (by decide) hS
                    obtain ⟨cA, cB, cC, cD⟩ := HC.out v l9 wS hS
                    clear hS hm
                    go_wp2
                    exact ⟨rfl, rfl, by rw [HSS.out]; exact hS9⟩
                  rotate_left
                  · intro v; kernel_rfl
                  · decide
                  apply walkedF_step _ (.int .i64 (j : Nat))
                  rotate_left 2
                  · intro v l9 wS hz hn hm hS
                    rw [HSS.out] at hS
                    have hS9 := freeS_other 10 (by decide) (by decide) (by decide) hS
                    obtain ⟨cA, cB, cC, cD⟩ := HC.out v l9 wS hS
                    clear hS hm
                    go_wp2
                    exact ⟨rfl, rfl, by rw [HSS.out]; exact hS9⟩
                  rotate_left
                  · intro v; kernel_rfl
                  · decide
                  apply walkedF_step _ (.pointer (some ⟨gl, j * 11, none⟩))
                  rotate_left 2
                  · intro v l9 wS hz hn hm hS
                    rw [HSS.out] at hS
                    have hS9 := freeS_other 11 (by decide) (by decide) (by decide) hS
                    obtain ⟨cA, cB, cC, cD⟩ := HC.out v l9 wS hS
                    clear hS hm
                    go_wp2
                    exact ⟨rfl, rfl, by rw [HSS.out]; exact hS9⟩
                  rotate_left
                  · intro v; kernel_rfl
                  · decide
                  apply walkedF_step _ (.pointer (some ⟨gl, j * 11 + 2, none⟩))
                  rotate_left 2
                  · intro v l9 wS hz hn hm hS
                    rw [HSS.out] at hS
                    have hS9 := freeS_other 12 (by decide) (by decide) (by decide) hS
                    obtain ⟨cA, cB, cC, cD⟩ := HC.out v l9 wS hS
                    clear hS hm
                    go_wp2
                    exact ⟨rfl, rfl, by rw [HSS.out]; exact hS9⟩
                  rotate_left
                  · intro v; kernel_rfl
                  · decide
                  apply walkedF_step _ (.int .u64 (a.vp : Nat))
                  rotate_left 2
                  · intro v l9 wS hz hn hm hS
                    rw [HSS.out] at hS
                    have hS9 := freeS_other 13 (by decide) (by decide) (by decide) hS
                    obtain ⟨cA, cB, cC, cD⟩ := HC.out v l9 wS hS
                    clear hS hm
                    go_wp2
                    exact ⟨rfl, rfl, by rw [HSS.out]; exact hS9⟩
                  rotate_left
                  · intro v; kernel_rfl
                  · decide
                  apply walkedF_step _ (.tuple #[.agg #[Value.int .i64 0, .int .i64 0, .int .u64 0, .int .u64 0, .int .i64 0, .bool false, .bool false, .bool false, .bool false, .bool false, .bool false], .bool false])
                  rotate_left 2
                  · intro v l9 wS hz hn hm hS
                    rw [HSS.out] at hS
                    have hc := HFd.out wS (freeS_tlb hn hS)
                    have hfin := fun y hT ho => freeS_call (y := y) hz (by decide) (by decide) (by decide) hS hT ho
                    have hTS := Lib.hid (freeS_tlb hn hS)
                    clear hS hm
                    go_wp2_with fail
                    (with_reducible refine hc.mono ?_)
                    rintro e y ⟨rfl, hO⟩
                    have hf := hfin y (tlb_old hTS.out hO) ((Only.of_below hO).mono fun i _ f => f.elim)
                    clear hfin hc hO hTS
                    go_wp2
                    exact ⟨rfl, rfl, by rw [HSS.out]; exact hf⟩
                  rotate_left
                  · intro v; kernel_rfl
                  · decide
                  apply walkedF_step _ (.tuple #[.agg #[Value.int .i64 0, .int .i64 0, .int .u64 0, .int .u64 0, .int .i64 0, .bool false, .bool false, .bool false, .bool false, .bool false, .bool false], .bool false])
                  rotate_left 2
                  · intro v l9 wS hz hn hm hS
                    rw [HSS.out] at hS
                    have hS9 := freeS_other 15 (by decide) (by decide) (by decide) hS
                    obtain ⟨cA, cB, cC, cD⟩ := HC.out v l9 wS hS
                    clear hS hm
                    go_wp2
                    exact ⟨rfl, rfl, by rw [HSS.out]; exact hS9⟩
                  rotate_left
                  · intro v; kernel_rfl
                  · decide
                  apply walkedF_step _ (.agg #[Value.int .i64 0, .int .i64 0, .int .u64 0, .int .u64 0, .int .i64 0, .bool false, .bool false, .bool false, .bool false, .bool false, .bool false])
                  rotate_left 2
                  · intro v l9 wS hz hn hm hS
                    rw [HSS.out] at hS
                    have hS9 := freeS_other 16 (by decide) (by decide) (by decide) hS
                    obtain ⟨cA, cB, cC, cD⟩ := HC.out v l9 wS hS
                    clear hS hm
                    go_wp2
                    exact ⟨rfl, rfl, by rw [HSS.out]; exact hS9⟩
                  rotate_left
                  · intro v; kernel_rfl
                  · decide
                  apply walkedF_step _ (.bool false)
                  rotate_left 2
                  · intro v l9 wS hz hn hm hS
                    rw [HSS.out] at hS
                    have hS9 := freeS_other 17 (by decide) (by decide) (by decide) hS
                    obtain ⟨cA, cB, cC, cD⟩ := HC.out v l9 wS hS
                    clear hS hm
                    go_wp2
                    exact ⟨rfl, rfl, by rw [HSS.out]; exact hS9⟩
                  rotate_left
                  · intro v; kernel_rfl
                  · decide
                  refine walkedF_free ?_
                  (try simp only [Act.put, List.setIfInBounds_toArray, List.set_cons_succ, List.set_cons_zero])
                  refine walkedF_cons undef (by decide) ?_ ?_
                  · intro v l9 wS hz hn hm hS
                    have hA : l9.getD 18 false = true := hm _ rfl ⟨18, .data⟩ (by simp) rfl
                    rw [HSS.out] at hS
                    obtain ⟨r, rfl, hr, hblk⟩ := hS.2.2.1 hA
                    have hfin := freeS_store hz (by decide) (by decide) (by decide) hA rfl hS
                    rw [hn] at hblk
                    clear hS hm
                    go_wp2_with (refine wpList_store_at rfl 64 _ _ rfl r 0 [Value.int .i64 0, .int .i64 0, .int .u64 0, .int .u64 0, .int .i64 0, .bool false, .bool false, .bool false, .bool false, .bool false, .bool false] rfl rfl 64 _ hblk (by kernel_rfl) (Nat.le_of_eq rfl) (by intro v hv; simp only [List.mem_cons, List.not_mem_nil, or_false] at hv; rcases hv with rfl | rfl | rfl | rfl | rfl | rfl | rfl | rfl | rfl | rfl | rfl <;> rfl) ?_)
                    exact ⟨rfl, rfl, by rw [HSS.out]; exact hfin⟩
                  (try simp only [Act.put, List.setIfInBounds_toArray, List.set_cons_succ, List.set_cons_zero])
                  refine walkedF_nil fun v l9 y5 hz hall hS => ?_
                  have b14 := hall 14 (by decide)
                  have b18 := hall 18 (by decide)
                  have b19 := hall 19 (by decide)
                  rw [HSS.out] at hS
                  obtain ⟨hTy, hOy, hPy, _, _⟩ := hS
                  rw [b14] at hTy
                  have hTy : IsTlb y5 p gs bs n wy T1 := hTy
                  have hOy : Only (fun z => z ∈ bs) wq y5 := ⟨hOy.os, hOy.tape, hOy.output, hOy.size, hOy.block⟩
                  have hF5 := hold_lost HF.out hOy hTy HF.out.h
                  have hnb5 := keep_only hOy (fun hm => by have := (HF.out.bB nb hm).2; have := HR.out.2.2.2.2; omega) HNB.out
                  have H5 := Lib.hid (And.intro hF5 hnb5)
                  clear hall b14 b18 b19 hPy hTy hOy hF5 hnb5 HC HFd HF HNB
                  show wpList _ _ _ [_] _ _
                  go_wp2
                  refine Met.intro (hJ4 _ _ (by kernel_rfl) ?_ ?_)
                  · exact ⟨j + 1, HJL.out, by show Value.int .i64 ((j : Int) + 1) = _; simp, H5.out.1, H5.out.2⟩
                  · rw [H19.out]
                    show last.length - (intOf (Value.int .i64 ((j : Int) + 1))).toNat < last.length - (intOf (Value.int .i64 (j : Int))).toNat
                    have := HJL.out
                    simp [intOf]
                    omega
            · have hb7 : ((K : Int) == 7) = false := by simp; omega
              by_cases h10 : K = 10
              · subst h10
                have hc := PageLose_calls HF.out.tlb oid oip
                go_wp2_with fail
                (with_reducible refine hc.mono ?_)
                rintro e y1 ⟨rfl, hT1, hO1⟩
                have H1 := Lib.hid (hold_lost HF.out hO1 hT1 (holds_lose HF.out.h (pageB oid oip)))
                clear hc hT1 hO1 HF HB k1 f1 z1
                go_wp2
                refine Met.intro (hJ2 _ _ (by kernel_rfl) ?_ ?_)
                · exact ⟨i + 1, _, last, HLT.out.1, HLT.out.2, Nat.le_succ_of_le HLI.out, by show Value.int .i64 ((i : Int) + 1) = _; simp, H1.out⟩
                · rw [H12.out]
                  show l.length - (intOf (Value.int .i64 ((i : Int) + 1))).toNat < l.length - (intOf (Value.int .i64 (i : Int))).toNat
                  have := HLT.out.1
                  simp [intOf]
                  omega
              · have hb10 : ((K : Int) == 10) = false := by simp; omega
                by_cases h11 : K = 11
                · subst h11
                  have hc := FrameLose_calls HF.out.tlb ofr
                  go_wp2_with fail
                  (with_reducible refine hc.mono ?_)
                  rintro e y1 ⟨rfl, hT1, hO1⟩
                  have H1 := Lib.hid (hold_lost HF.out hO1 hT1 (holds_lose HF.out.h (frameB ofr)))
                  clear hc hT1 hO1 HF HB k1 f1 z1
                  go_wp2
                  refine Met.intro (hJ2 _ _ (by kernel_rfl) ?_ ?_)
                  · exact ⟨i + 1, _, last, HLT.out.1, HLT.out.2, Nat.le_succ_of_le HLI.out, by show Value.int .i64 ((i : Int) + 1) = _; simp, H1.out⟩
                  · rw [H12.out]
                    show l.length - (intOf (Value.int .i64 ((i : Int) + 1))).toNat < l.length - (intOf (Value.int .i64 (i : Int))).toNat
                    have := HLT.out.1
                    simp [intOf]
                    omega
                · have hb11 : ((K : Int) == 11) = false := by simp; omega
                  have hc := hold_evict HF.out.tlb ost owy
                  clear h7 h10 h11 hK12 hK5
                  go_wp2_with fail
                  (with_reducible refine hc.mono ?_)
                  rintro e y1 ⟨v1, T1, rfl, hT1, hh1, hO1⟩
                  have H1 := Lib.hid (hold_lost HF.out hO1 hT1 (hh1 last HF.out.h))
                  clear hc hT1 hO1 hh1 HF HB k1 f1 z1
                  go_wp2
                  refine Met.intro (hJ2 _ _ (by kernel_rfl) ?_ ?_)
                  · exact ⟨i + 1, T1, last, HLT.out.1, HLT.out.2, Nat.le_succ_of_le HLI.out, by show Value.int .i64 ((i : Int) + 1) = _; simp, H1.out⟩
                  · rw [H12.out]
                    show l.length - (intOf (Value.int .i64 ((i : Int) + 1))).toNat < l.length - (intOf (Value.int .i64 (i : Int))).toNat
                    have := HLT.out.1
                    simp [intOf]
                    omega
  case rest2 =>
  intro f2 wx hcut
  dsimp only [mergeA, mergeL, Nat.reduceAdd]
  clear HF
  obtain ⟨T, last, hll, hF⟩ := hcut
  generalize f2 11 = u11 at hF ⊢
  have hc := list_tlb hF.tlb
  have HF := Lib.hid hF
  clear hF
  go_wp2_with fail
  (with_reducible refine hc.mono ?_)
  rintro e x2 ⟨v, B1, rfl, hown, hbB, hO⟩
  have hF2 := hold_old HF.out hO
  have h512 := linesT_512 hF2.tlb
  have hline := fun i x (hx : (linesT T)[i]? = some x) => holds_line (wy := wy) hF2.h (by have := hF2.tlb.h1; omega) (tlb_lens hF2.tlb) hx
  obtain ⟨L, hL⟩ : ∃ L, L = linesT T := ⟨_, rfl⟩
  rw [← hL] at hown h512 hline
  obtain ⟨adA, cA, rfl, -, -, -, qA⟩ := own_value hown
  obtain ⟨adB, cB, rfl, -, -, -, qB⟩ := own_value hF2.own
  have HA := Lib.hid (And.intro hown (And.intro qA hbB))
  have HB := Lib.hid (And.intro hF2.own qB)
  have HF2 := Lib.hid hF2
  have HLN := Lib.hid hline
  have HL := Lib.hid hL
  obtain ⟨N, hN⟩ : ∃ N, N = L.length := ⟨_, rfl⟩
  rw [← hN]
  have HN2 := Lib.hid hN
  have n5 : (N : Int) ≤ 512 := by omega
  have l8 : (last.length : Int) ≤ 80 := by omega
  have hm := irow_make n (by have := HN.out.1.2; omega)
  clear hc hown hbB hO hF2 h512 hline hL hN hll qA qB HF
  go_upto_region 33 with (fail)
  clear hm
  have hO := old_alloc (old_refl x2) (.cells (irow (List.replicate n 0)) 3)
  have hcb := new_block x2 (.cells (irow (List.replicate n 0)) 3)
  rw [← cntsL_nil] at hO hcb ⊢
  generalize x2.alloc (.cells (irow (cntsL n [])) 3) = W at *
  have hcbB := tlb_lt HF2.out.tlb
  generalize hcbe : x2.heap.size = cb at *
  have HW := Lib.hid (And.intro hO (And.intro hcb (And.intro hcbB hcbe)))
  clear hO hcb hcbB hcbe
  go_wp2
  refine wp_loopF [false, false, false, false, false, false, true, false, false, false, false, false, false, false, false, false, false, false, false, false, false, false, false, false, true, true, true, true, true, true, false, false, false, false, false, false, false, false, false, false, false, false, false, false, false, false, false, false, false, false, false, false, false, false, false, false, false, false, false, false, false, false, false, false, false, false, false, false, false, false, false, false, false, false, false, false, false, false, false, false, false, false, false, false, false, false, false, false, false, false, false, false, false, false, false, false, false, false, false, false, false, false, false, false, false, false, false, false, false, false, false, false, false, false, false, false, false, false, false, false, false, false, false, false, false, false, false, false, false, false, false, false, false, false, false, false, false, false, false, false, false, false, false, false, false, false, false, false, false, false, false, false, false, false, false, false, false, false, false, false, false, false, false, false, false, false, false, false, false, false, false, false, false, false, false, false, false, false, false, false, false, false, false, false, true, true, true, true, true, true, true, true, true, true, true, true, true, true, true, true, true, true, true, true, true, true, true, true, true, true, true, true, true, true, true, true, true, true, true, true, true, true, true, true, true, true, true, true, true, true, true, true, true, true, true, true, true, true, true, true, true, true, true, true, true, true, true, true, true, true, true, true, true, true, true, true, true, true, true, true, true, true, true, true, true, true, true, true, true, true, true, true, true, true, true, true, true, true, true, true, true, true, true, true, true, true, true, true] (fun f wx => ∃ i : Nat, i ≤ N ∧ f 24 = .int .i64 (i : Nat) ∧ IsTlb wx p gs bs n wy T ∧ Only (fun z => z = cb ∨ z ∈ bs) W wx ∧ wx.heap[cb]? = some (.cells (irow (cntsL n (L.take i))) 3)) (fun f => N - (intOf (f 24)).toNat) ?start5 ?round5
  case start5 => exact ⟨0, by omega, rfl, tlb_old HF2.out.tlb HW.out.1, Only.refl _ _, HW.out.2.1⟩
  case round5 =>
    intro f5 wr hrel J5 K5 hJ5 hM5
    dsimp only [mergeA, mergeL, Nat.reduceAdd]
    obtain ⟨i, hi, h24, hT, hOn, hcb⟩ := hrel
    rw [h24]
    have H24 := Lib.hid h24
    have HR := Lib.hid (And.intro hT (And.intro hOn hcb))
    clear hT hOn hcb h24
    by_cases hiN : i = N
    · have e1 : ¬ (i : Int) < N := by omega
      clear hiN hi
      have hc := told15_calls wr
      go_wp2_with fail
      (with_reducible refine hc.mono ?_)
      rintro e z1 ⟨rfl, hO1⟩
      have hT1 := tlb_old HR.out.1 hO1
      have hc := AllLose_calls hT1
      have hcnt : cntT allB T = N := by
        have h1 := cntT_lines allB T
        have h2 : (linesT T).filter (fun l => !allB l) = [] := by rw [List.filter_eq_nil_iff]; intro l _; simp [allB]
        rw [h2] at h1
        rw [HN2.out, HL.out]
        simpa using h1
      have HO1 := Lib.hid (And.intro hO1 hT1)
      have HCN := Lib.hid hcnt
      clear hO1 hT1 hcnt
      go_wp2_with fail
      (with_reducible refine hc.mono ?_)
      rintro e z2 ⟨rfl, hT2, hO2⟩
      rw [HCN.out]
      have hc := list_tlb hT2
      have h0 : linesT (T.map (fun t => t.map (loseP allB))) = [] := by
        rw [linesT_lose, List.filter_eq_nil_iff]; intro l _; simp [allB]
      have HO2 := Lib.hid hO2
      have H0 := Lib.hid h0
      clear hO2 hT2 h0
      go_wp2_with fail
      (with_reducible refine hc.mono ?_)
      rintro e z3 ⟨v3, B3, rfl, hown3, _, hO3⟩
      rw [H0.out] at hown3
      obtain ⟨ad3, c3, rfl, -⟩ := own_value hown3
      have HO3 := Lib.hid hO3
      clear hc hown3 hO3
      go_wp2
      go_ret
      refine ⟨rfl, ?_⟩
      have hb := HF2.out.bB
      have hcw : w.heap.size ≤ cb := by rw [← HW.out.2.2.2]; exact HF2.out.old.size
      have g1 := old_stepT (old_then HF2.out.old HW.out.1) HR.out.2.1 (fun b hb' => by
        rcases hb' with rfl | h
        · exact hcw
        · exact (hb b h).1)
      exact old_then (old_stepT (old_then g1 HO1.out.1) HO2.out (fun b h => (hb b h).1)) HO3.out
    · have e1 : (i : Int) < N := by omega
      have hlt : i < N := by omega
      obtain ⟨x, hx⟩ : ∃ x, L[i]? = some x := ⟨_, List.getElem?_eq_getElem (by rw [← HN2.out]; exact hlt)⟩
      obtain ⟨gA, rfl⟩ := HA.out.2.1 (by rw [← HN2.out]; omega)
      obtain ⟨⟨t, j, q, ht, hj, hq, hat⟩, hcnt, k, hk, hkx⟩ := HLN.out i x hx
      obtain ⟨hcs1, hcs2⟩ := cntsL_step n i L x hx (by have := HN.out.1.1; omega)
      obtain ⟨b, hb⟩ : ∃ b, bs[x.vp % n]? = some b := ⟨_, List.getElem?_eq_getElem (by rw [HF2.out.tlb.lb]; exact Nat.mod_lt _ (by have := HN.out.1.1; omega))⟩
      have hsn : x.vp % n < n := Nat.mod_lt _ (by have := HN.out.1.1; omega)
      have hgA := HA.out.1.lt gA rfl
      have hcA : ∀ (cc : Nat) (u : Value), x.cells[cc]? = some u → W.cell? ⟨gA, i * 11 + cc, none⟩ = some u := fun cc u hu => own_cell (own_old HA.out.1 HW.out.1) rfl _ (flatC_get ln_len L i x cc u hx hu)
      have hgw : gA < W.heap.size := Nat.lt_of_lt_of_le hgA.2 HW.out.1.size
      have hgn : ¬ (gA = cb ∨ gA ∈ bs) := by
        rintro (h | h)
        · have := hgA.2; have := HW.out.2.2.2; omega
        · exact HA.out.2.2 gA hgA.1 h
      -- what is read of the list, wherever
      have hAll : ∀ (y : World), Only (fun z => z = cb ∨ z ∈ bs) W y → ∀ (cc : Nat) (u : Value), x.cells[cc]? = some u → y.cell? ⟨gA, i * 11 + cc, none⟩ = some u := fun y hy cc u hu => by
        rw [hy.cell gA _ hgw hgn]; exact hcA cc u hu
      have hfind := fun y (hy : IsTlb y p gs bs n wy T) => find_some hy (kid := x.id) (kas := x.asid) (kvp := x.vp) rfl hb ht j _ hat hj
      rw [hq] at hfind
      have hnewi : newI x last 0 (-1) = (k : Int) := hk
      obtain ⟨S, hS⟩ : ∃ S, x.vp % n = S := ⟨_, rfl⟩
      rw [hS] at hcs1 hcs2 hcnt hsn
      obtain ⟨c0, hc0⟩ : ∃ c0, cntS n S (L.take i) = c0 := ⟨_, rfl⟩
      rw [hc0] at hcs1 hcs2
      rw [hcs2] at hcnt
      have hget := cntsL_get n S (L.take i) hsn
      rw [hc0] at hget
      have hmod : (x.vp : Int) % (n : Int) = (S : Int) := by omega
      have HX := Lib.hid (show x = x from rfl)
      obtain ⟨xid, xas, xvp, xip, xfr, xp0, xp1, xp2, xs0, xs1, xs2⟩ := x
      dsimp only at hfind hmod hS
      dsimp only [Ln.cells] at hfind
      have hAll2 : ∀ (y : World), Only (fun z => z = cb ∨ z ∈ bs) W y → ∀ (cc : Nat) (u : Value), [Value.int .i64 xid, .int .i64 xas, .int .u64 (xvp : Nat), .int .u64 (xip : Nat), .int .i64 xfr, .bool xp0, .bool xp1, .bool xp2, .bool xs0, .bool xs1, .bool xs2][cc]? = some u → y.cell? ⟨gA, i * 11 + cc, none⟩ = some u := hAll
      have HAll := Lib.hid hAll2
      have HFd := Lib.hid hfind
      have HC3 := Lib.hid (And.intro hcs1 (And.intro hcnt (And.intro hget hsn)))
      have HK := Lib.hid (And.intro hnewi hkx)
      have HLT := Lib.hid hlt
      clear hiN hi hlt hx ht hj hq hat hk hcs1 hcs2 hb hgA hcA hgw hgn hAll hAll2 hfind hc0 hget hnewi hkx hS HX hcnt hsn
      have Hc : ∀ (v : Value) (l : Array Bool) (y : World), FreeS 16 20 21 wr.drew p gs bs n wy T T #[Value.int .i64 0, .int .i64 0, .int .u64 0, .int .u64 0, .int .i64 0, .bool false, .bool false, .bool false, .bool false, .bool false, .bool false] #[Value.int .i64 xid, .int .i64 xas, .int .u64 (xvp : Nat), .int .u64 (xip : Nat), .int .i64 xfr, .bool xp0, .bool xp1, .bool xp2, .bool xs0, .bool xs1, .bool xs2] 64 v l y → y.cell? ⟨gA, i * 11, none⟩ = some (.int .i64 xid) ∧ y.cell? ⟨gA, i * 11 + 1, none⟩ = some (.int .i64 xas) ∧ y.cell? ⟨gA, i * 11 + 2, none⟩ = some (.int .u64 (xvp : Nat)) ∧ True := by
        intro v l y hS
        have hy := HR.out.2.1.trans ((⟨hS.2.1.os, hS.2.1.tape, hS.2.1.output, hS.2.1.size, hS.2.1.block⟩ : Only (fun z => z ∈ bs) wr y).mono fun b _ h => Or.inr h)
        exact ⟨HAll.out y hy 0 _ rfl, HAll.out y hy 1 _ rfl, HAll.out y hy 2 _ rfl, trivial⟩
      have HC := Lib.hid Hc
      clear Hc
      go_upto_region 36 with (fail)
      obtain ⟨SS, hSS⟩ : ∃ SS : Value → Array Bool → World → Prop, SS = fun v l y => FreeS 16 20 21 wr.drew p gs bs n wy T T #[Value.int .i64 0, .int .i64 0, .int .u64 0, .int .u64 0, .int .i64 0, .bool false, .bool false, .bool false, .bool false, .bool false, .bool false] #[Value.int .i64 xid, .int .i64 xas, .int .u64 (xvp : Nat), .int .u64 (xip : Nat), .int .i64 xfr, .bool xp0, .bool xp1, .bool xp2, .bool xs0, .bool xs1, .bool xs2] 64 v l y := ⟨_, rfl⟩
      have HSS := Lib.hid hSS
      clear hSS
      refine wp_region_free (S := SS) 20 22 _ rfl (by decide) rfl (.cells #[Value.int .i64 0, .int .i64 0, .int .u64 0, .int .u64 0, .int .i64 0, .bool false, .bool false, .bool false, .bool false, .bool false, .bool false] 64) (by intro b y; simp [execOp, go_sem]) (fun v l y hz hn hS => by rw [HSS.out] at hS ⊢; exact freeS_alloc hz (by decide) (by decide) (by decide) hn hS) (by kernel_rfl) (by kernel_rfl) (by kernel_rfl) (by decide) undef (by rw [HSS.out]; exact freeS_start (tlb_old HR.out.1 (old_drew (old_refl _)))) ?_
      apply walkedF_step _ (.pointer (some ⟨p, 0, none⟩))
      rotate_left 2
      · intro v l9 wS hz hn hm hS
        rw [HSS.out] at hS
        have hS9 := freeS_other 0 (by decide) (by decide) (by decide) hS
        obtain ⟨cA, cB, cC, cD⟩ := HC.out v l9 wS hS
        clear hS hm
        go_wp2
        exact ⟨rfl, rfl, by rw [HSS.out]; exact hS9⟩
      rotate_left
      · intro v; kernel_rfl
      · decide
      apply walkedF_step _ (.slice (some ⟨gA, 0, none⟩) N cA)
      rotate_left 2
      · intro v l9 wS hz hn hm hS
        rw [HSS.out] at hS
        have hS9 := freeS_other 1 (by decide) (by decide) (by decide) hS
        obtain ⟨cA, cB, cC, cD⟩ := HC.out v l9 wS hS
        clear hS hm
        go_wp2
        exact ⟨rfl, rfl, by rw [HSS.out]; exact hS9⟩
      rotate_left
      · intro v; kernel_rfl
      · decide
      apply walkedF_step _ (.int .i64 (i : Nat))
      rotate_left 2
      · intro v l9 wS hz hn hm hS
        rw [HSS.out] at hS
        have hS9 := freeS_other 2 (by decide) (by decide) (by decide) hS
        obtain ⟨cA, cB, cC, cD⟩ := HC.out v l9 wS hS
        clear hS hm
        go_wp2
        exact ⟨rfl, rfl, by rw [HSS.out]; exact hS9⟩
      rotate_left
      · intro v; kernel_rfl
      · decide
      apply walkedF_step _ (.pointer (some ⟨gA, i * 11, none⟩))
      rotate_left 2
      · intro v l9 wS hz hn hm hS
        rw [HSS.out] at hS
        have hS9 := freeS_other 3 (by decide) (by decide) (by decide) hS
        obtain ⟨cA, cB, cC, cD⟩ := HC.out v l9 wS hS
        clear hS hm
        go_wp2
        exact ⟨rfl, rfl, by rw [HSS.out]; exact hS9⟩
      rotate_left
      · intro v; kernel_rfl
      · decide
      apply walkedF_step _ (.pointer (some ⟨gA, i * 11, none⟩))
      rotate_left 2
      · intro v l9 wS hz hn hm hS
        rw [HSS.out] at hS
        have hS9 := freeS_other 4 (by decide) (by decide) (by decide) hS
        obtain ⟨cA, cB, cC, cD⟩ := HC.out v l9 wS hS
        clear hS hm
        go_wp2
        exact ⟨rfl, rfl, by rw [HSS.out]; exact hS9⟩
      rotate_left
      · intro v; kernel_rfl
      · decide
      apply walkedF_step _ (.int .i64 xid)
      rotate_left 2
      · intro v l9 wS hz hn hm hS
        rw [HSS.out] at hS
        have hS9 := freeS_other 5 (by decide) (by decide) (by decide) hS
        obtain ⟨cA, cB, cC, cD⟩ := HC.out v l9 wS hS
        clear hS hm
        go_wp2
        exact ⟨rfl, rfl, by rw [HSS.out]; exact hS9⟩
      rotate_left
      · intro v; kernel_rfl
      · decide
      apply walkedF_step _ (.slice (some ⟨gA, 0, none⟩) N cA)
      rotate_left 2
      · intro v l9 wS hz hn hm hS
        rw [HSS.out] at hS
        have hS9 := freeS_other 6 (by decide) (by decide) (by decide) hS
        obtain ⟨cA, cB, cC, cD⟩ := HC.out v l9 wS hS
        clear hS hm
        go_wp2
        exact ⟨rfl, rfl, by rw [HSS.out]; exact hS9⟩
      rotate_left
      · intro v; kernel_rfl
      · decide
      apply walkedF_step _ (.int .i64 (i : Nat))
      rotate_left 2
      · intro v l9 wS hz hn hm hS
        rw [HSS.out] at hS
        have hS9 := freeS_other 7 (by decide) (by decide) (by decide) hS
        obtain ⟨cA, cB, cC, cD⟩ := HC.out v l9 wS hS
        clear hS hm
        go_wp2
        exact ⟨rfl, rfl, by rw [HSS.out]; exact hS9⟩
      rotate_left
      · intro v; kernel_rfl
      · decide
      apply walkedF_step _ (.pointer (some ⟨gA, i * 11, none⟩))
      rotate_left 2
      · intro v l9 wS hz hn hm hS
        rw [HSS.out] at hS
        have hS9 := freeS_other 8 (by decide) (by decide) (by decide) hS
        obtain ⟨cA, cB, cC, cD⟩ := HC.out v l9 wS hS
        clear hS hm
        go_wp2
        exact ⟨rfl, rfl, by rw [HSS.out]; exact hS9⟩
      rotate_left
      · intro v; kernel_rfl
      · decide
      apply walkedF_step _ (.pointer (some ⟨gA, i * 11 + 1, none⟩))
      rotate_left 2
      · intro v l9 wS hz hn hm hS
        rw [HSS.out] at hS
        have hS9 := freeS_other 9 (by decide) (by decide) (by decide) hS
        obtain ⟨cA, cB, cC, cD⟩ := HC.out v l9 wS hS
        clear hS hm
        go_wp2
        exact ⟨rfl, rfl, by rw [HSS.out]; exact hS9⟩
      rotate_left
      · intro v; kernel_rfl
      · decide
      apply walkedF_step _ (.int .i64 xas)
      rotate_left 2
      · intro v l9 wS hz hn hm hS
        rw [HSS.out] at hS
        have hS9 := freeS_other 10 (by decide) (by decide) (by decide) hS
        obtain ⟨cA, cB, cC, cD⟩ := HC.out v l9 wS hS
        clear hS hm
        go_wp2
        exact ⟨rfl, rfl, by rw [HSS.out]; exact hS9⟩
      rotate_left
      · intro v; kernel_rfl
      · decide
      apply walkedF_step _ (.slice (some ⟨gA, 0, none⟩) N cA)
      rotate_left 2
      · intro v l9 wS hz hn hm hS
        rw [HSS.out] at hS
        have hS9 := freeS_other 11 (by decide) (by decide) (by decide) hS
        obtain ⟨cA, cB, cC, cD⟩ := HC.out v l9 wS hS
        clear hS hm
        go_wp2
        exact ⟨rfl, rfl, by rw [HSS.out]; exact hS9⟩
      rotate_left
      · intro v; kernel_rfl
      · decide
      apply walkedF_step _ (.int .i64 (i : Nat))
      rotate_left 2
      · intro v l9 wS hz hn hm hS
        rw [HSS.out] at hS
        have hS9 := freeS_other 12 (by decide) (by decide) (by decide) hS
        obtain ⟨cA, cB, cC, cD⟩ := HC.out v l9 wS hS
        clear hS hm
        go_wp2
        exact ⟨rfl, rfl, by rw [HSS.out]; exact hS9⟩
      rotate_left
      · intro v; kernel_rfl
      · decide
      apply walkedF_step _ (.pointer (some ⟨gA, i * 11, none⟩))
      rotate_left 2
      · intro v l9 wS hz hn hm hS
        rw [HSS.out] at hS
        have hS9 := freeS_other 13 (by decide) (by decide) (by decide) hS
        obtain ⟨cA, cB, cC, cD⟩ := HC.out v l9 wS hS
        clear hS hm
        go_wp2
        exact ⟨rfl, rfl, by rw [HSS.out]; exact hS9⟩
      rotate_left
      · intro v; kernel_rfl
      · decide
      apply walkedF_step _ (.pointer (some ⟨gA, i * 11 + 2, none⟩))
      rotate_left 2
      · intro v l9 wS hz hn hm hS
        rw [HSS.out] at hS
        have hS9 := freeS_other 14 (by decide) (by decide) (by decide) hS
        obtain ⟨cA, cB, cC, cD⟩ := HC.out v l9 wS hS
        clear hS hm
        go_wp2
        exact ⟨rfl, rfl, by rw [HSS.out]; exact hS9⟩
      rotate_left
      · intro v; kernel_rfl
      · decide
      apply walkedF_step _ (.int .u64 (xvp : Nat))
      rotate_left 2
      · intro v l9 wS hz hn hm hS
        rw [HSS.out] at hS
        have hS9 := freeS_other 15 (by decide) (by decide) (by decide) hS
        obtain ⟨cA, cB, cC, cD⟩ := HC.out v l9 wS hS
        clear hS hm
        go_wp2
        exact ⟨rfl, rfl, by rw [HSS.out]; exact hS9⟩
      rotate_left
      · intro v; kernel_rfl
      · decide
      apply walkedF_step _ (.tuple #[.agg #[Value.int .i64 xid, .int .i64 xas, .int .u64 (xvp : Nat), .int .u64 (xip : Nat), .int .i64 xfr, .bool xp0, .bool xp1, .bool xp2, .bool xs0, .bool xs1, .bool xs2], .bool true])
      rotate_left 2
      · intro v l9 wS hz hn hm hS
        rw [HSS.out] at hS
        have hc := HFd.out wS (freeS_tlb hn hS)
        have hfin := fun y hT ho => freeS_call (y := y) hz (by decide) (by decide) (by decide) hS hT ho
        have hTS := Lib.hid (freeS_tlb hn hS)
        clear hS hm
        go_wp2_with fail
        (with_reducible refine hc.mono ?_)
        rintro e y ⟨rfl, hO⟩
        have hf := hfin y (tlb_old hTS.out hO) ((Only.of_below hO).mono fun i _ f => f.elim)
        clear hfin hc hO hTS
        go_wp2
        exact ⟨rfl, rfl, by rw [HSS.out]; exact hf⟩
      rotate_left
      · intro v; kernel_rfl
      · decide
      apply walkedF_step _ (.tuple #[.agg #[Value.int .i64 xid, .int .i64 xas, .int .u64 (xvp : Nat), .int .u64 (xip : Nat), .int .i64 xfr, .bool xp0, .bool xp1, .bool xp2, .bool xs0, .bool xs1, .bool xs2], .bool true])
      rotate_left 2
      · intro v l9 wS hz hn hm hS
        rw [HSS.out] at hS
        have hS9 := freeS_other 17 (by decide) (by decide) (by decide) hS
        obtain ⟨cA, cB, cC, cD⟩ := HC.out v l9 wS hS
        clear hS hm
        go_wp2
        exact ⟨rfl, rfl, by rw [HSS.out]; exact hS9⟩
      rotate_left
      · intro v; kernel_rfl
      · decide
      apply walkedF_step _ (.agg #[Value.int .i64 xid, .int .i64 xas, .int .u64 (xvp : Nat), .int .u64 (xip : Nat), .int .i64 xfr, .bool xp0, .bool xp1, .bool xp2, .bool xs0, .bool xs1, .bool xs2])
      rotate_left 2
      · intro v l9 wS hz hn hm hS
        rw [HSS.out] at hS
        have hS9 := freeS_other 18 (by decide) (by decide) (by decide) hS
        obtain ⟨cA, cB, cC, cD⟩ := HC.out v l9 wS hS
        clear hS hm
        go_wp2
        exact ⟨rfl, rfl, by rw [HSS.out]; exact hS9⟩
      rotate_left
      · intro v; kernel_rfl
      · decide
      apply walkedF_step _ (.bool true)
      rotate_left 2
      · intro v l9 wS hz hn hm hS
        rw [HSS.out] at hS
        have hS9 := freeS_other 19 (by decide) (by decide) (by decide) hS
        obtain ⟨cA, cB, cC, cD⟩ := HC.out v l9 wS hS
        clear hS hm
        go_wp2
        exact ⟨rfl, rfl, by rw [HSS.out]; exact hS9⟩
      rotate_left
      · intro v; kernel_rfl
      · decide
      refine walkedF_free ?_
      (try simp only [Act.put, List.setIfInBounds_toArray, List.set_cons_succ, List.set_cons_zero])
      refine walkedF_cons undef (by decide) ?_ ?_
      · intro v l9 wS hz hn hm hS
        have hA : l9.getD 20 false = true := hm _ rfl ⟨20, .data⟩ (by simp) rfl
        rw [HSS.out] at hS
        obtain ⟨r, rfl, hr, hblk⟩ := hS.2.2.1 hA
        have hfin := freeS_store hz (by decide) (by decide) (by decide) hA rfl hS
        rw [hn] at hblk
        clear hS hm
        go_wp2_with (refine wpList_store_at rfl 64 _ _ rfl r 0 [Value.int .i64 xid, .int .i64 xas, .int .u64 (xvp : Nat), .int .u64 (xip : Nat), .int .i64 xfr, .bool xp0, .bool xp1, .bool xp2, .bool xs0, .bool xs1, .bool xs2] rfl rfl 64 _ hblk (by kernel_rfl) (Nat.le_of_eq rfl) (by intro v hv; simp only [List.mem_cons, List.not_mem_nil, or_false] at hv; rcases hv with rfl | rfl | rfl | rfl | rfl | rfl | rfl | rfl | rfl | rfl | rfl <;> rfl) ?_)
        exact ⟨rfl, rfl, by rw [HSS.out]; exact hfin⟩
      (try simp only [Act.put, List.setIfInBounds_toArray, List.set_cons_succ, List.set_cons_zero])
      refine walkedF_nil fun v l9 y5 hz hall hS => ?_
      have b16 := hall 16 (by decide)
      have b20 := hall 20 (by decide)
      have b21 := hall 21 (by decide)
      rw [HSS.out] at hS
      obtain ⟨hTy, hOy, hPy, _, _⟩ := hS
      obtain ⟨r, rfl, hr, hQy⟩ := hPy b20
      rw [b16] at hTy
      rw [b21] at hQy
      have hTy : IsTlb y5 p gs bs n wy T := hTy
      have hQy : y5.heap[r]? = some (.cells #[Value.int .i64 xid, .int .i64 xas, .int .u64 (xvp : Nat), .int .u64 (xip : Nat), .int .i64 xfr, .bool xp0, .bool xp1, .bool xp2, .bool xs0, .bool xs1, .bool xs2] 64) := hQy
      have hOy : Only (fun z => z ∈ bs) wr y5 := ⟨hOy.os, hOy.tape, hOy.output, hOy.size, hOy.block⟩
      have hr : wr.heap.size ≤ r := hr
      have hcbl := lt_of_block HR.out.2.2
      have hcb5 : y5.heap[cb]? = some (.cells (irow (cntsL n (L.take i))) 3) := keep_only hOy (fun hm => by have := HW.out.2.2.1.2.2 cb hm; have := HW.out.2.2.2; omega) HR.out.2.2
      have hOW := HR.out.2.1.trans (hOy.mono fun b _ h => Or.inr h)
      have hrcb : r ≠ cb := by omega
      have HY := Lib.hid (And.intro hTy (And.intro hOW (And.intro hQy (And.intro hcb5 hrcb))))
      have hA2 : y5.cell? ⟨gA, i * 11 + 2, none⟩ = some (.int .u64 (xvp : Nat)) := HAll.out y5 hOW 2 _ rfl
      have hcc : y5.cell? ⟨cb, S, none⟩ = some (.int .i64 (c0 : Nat)) := by rw [cell_of hcb5, irow_get, HC3.out.2.2.1]; rfl
      have hff : y5.frozen? ⟨cb, S, none⟩ = false := frozen_of hcb5 _
      have hss : y5.setCell ⟨cb, S, none⟩ (.int .i64 ((c0 : Int) + 1)) = putB y5 cb (.cells (irow (cntsL n (L.take (i + 1)))) 3) := by rw [set_of hcb5, irow_set, HC3.out.1]
      have hnn : ¬ (n : Int) = 0 := by have := HN.out.1.1; omega
      have hnw : IntKind.u64.wrap (n : Int) = n := IntWalk.u64_in _ (by have := HN.out.1.2; omega)
      have hSn : (S : Int) < n := by have := HC3.out.2.2.2; omega
      have hS64 : (S : Int) < 64 := by have := HN.out.1.2; omega
      have hc8 : (c0 : Int) + 1 ≤ wy := by have := HC3.out.2.1; omega
      clear hall b16 b20 b21 hPy hTy hOy hOW hQy hcb5 hr hcbl hrcb HC HFd
      show wpList _ _ _ [_] _ _
      go_upto_region 39 with (fail)
      have hput : (putB y5 cb (.cells (irow (cntsL n (L.take (i + 1)))) 3)).heap[cb]? = some (.cells (irow (cntsL n (L.take (i + 1)))) 3) := putB_same _ (lt_of_block HY.out.2.2.2.1)
      have hr6 : (putB y5 cb (.cells (irow (cntsL n (L.take (i + 1)))) 3)).heap[r]? = some (.cells #[Value.int .i64 xid, .int .i64 xas, .int .u64 (xvp : Nat), .int .u64 (xip : Nat), .int .i64 xfr, .bool xp0, .bool xp1, .bool xp2, .bool xs0, .bool xs1, .bool xs2] 64) := by rw [putB_other _ (fun e => HY.out.2.2.2.2 e.symm)]; exact HY.out.2.2.1
      have hO6 : Only (fun z => z = cb ∨ z ∈ bs) W (putB y5 cb (.cells (irow (cntsL n (L.take (i + 1)))) 3)) := HY.out.2.1.putB _ (fun _ => Or.inl rfl)
      have hT6 : IsTlb (putB y5 cb (.cells (irow (cntsL n (L.take (i + 1)))) 3)) p gs bs n wy T := tlb_only (F := fun z => z = cb) HY.out.1 ((Only.refl _ y5).putB _ (fun _ => rfl)) (fun e => by have := HW.out.2.2.1.1; have := HW.out.2.2.2; omega) (fun e => by have := HW.out.2.2.1.2.1; have := HW.out.2.2.2; omega) (fun b hb e => by have := HW.out.2.2.1.2.2 b hb; have := HW.out.2.2.2; omega)
      generalize putB y5 cb (.cells (irow (cntsL n (L.take (i + 1)))) 3) = y6 at *
      have H6 := Lib.hid (And.intro hT6 (And.intro hO6 (And.intro hput hr6)))
      obtain ⟨k1, f1', z1'⟩ := of_block hr6
      have hcc6 : y6.cell? ⟨cb, S, none⟩ = some (.int .i64 ((c0 + 1 : Nat) : Int)) := by
        rw [cell_of hput, irow_get, cntsL_get n S _ HC3.out.2.2.2]
        have := congrArg (fun l => l[S]?) HC3.out.1
        (try dsimp only at this)
        rw [cntsL_get n S _ HC3.out.2.2.2, List.getElem?_set, if_pos rfl, if_pos (by rw [cntsL_len]; exact HC3.out.2.2.2)] at this
        rw [← this]
        rfl
      have hcA : ∀ (cc : Nat) (u : Value), [Value.int .i64 xid, .int .i64 xas, .int .u64 (xvp : Nat), .int .u64 (xip : Nat), .int .i64 xfr, .bool xp0, .bool xp1, .bool xp2, .bool xs0, .bool xs1, .bool xs2][cc]? = some u → y6.cell? ⟨gA, i * 11 + cc, none⟩ = some u := HAll.out y6 hO6
      have ha0 : y6.cell? ⟨gA, i * 11, none⟩ = some (.int .i64 xid) := hcA 0 _ rfl
      have ha1 : y6.cell? ⟨gA, i * 11 + 1, none⟩ = some (.int .i64 xas) := hcA 1 _ rfl
      have ha2 : y6.cell? ⟨gA, i * 11 + 2, none⟩ = some (.int .u64 (xvp : Nat)) := hcA 2 _ rfl
      have ha3 : y6.cell? ⟨gA, i * 11 + 3, none⟩ = some (.int .u64 (xip : Nat)) := hcA 3 _ rfl
      have ha4 : y6.cell? ⟨gA, i * 11 + 4, none⟩ = some (.int .i64 xfr) := hcA 4 _ rfl
      have ha5 : y6.cell? ⟨gA, i * 11 + 5, none⟩ = some (.bool xp0) := hcA 5 _ rfl
      have ha6 : y6.cell? ⟨gA, i * 11 + 6, none⟩ = some (.bool xp1) := hcA 6 _ rfl
      have ha7 : y6.cell? ⟨gA, i * 11 + 7, none⟩ = some (.bool xp2) := hcA 7 _ rfl
      have ha8 : y6.cell? ⟨gA, i * 11 + 8, none⟩ = some (.bool xs0) := hcA 8 _ rfl
      have ha9 : y6.cell? ⟨gA, i * 11 + 9, none⟩ = some (.bool xs1) := hcA 9 _ rfl
      have ha10 : y6.cell? ⟨gA, i * 11 + 10, none⟩ = some (.bool xs2) := hcA 10 _ rfl
      have heq : (Op.equalIn 10000 64 (.agg #[Value.int .i64 xid, .int .i64 xas, .int .u64 (xvp : Nat), .int .u64 (xip : Nat), .int .i64 xfr, .bool xp0, .bool xp1, .bool xp2, .bool xs0, .bool xs1, .bool xs2]) (.agg #[Value.int .i64 xid, .int .i64 xas, .int .u64 (xvp : Nat), .int .u64 (xip : Nat), .int .i64 xfr, .bool xp0, .bool xp1, .bool xp2, .bool xs0, .bool xs1, .bool xs2])).run Try.prog y6.drew = .ok true y6.drew := by
        have := eq_line ⟨xid, xas, xvp, xip, xfr, xp0, xp1, xp2, xs0, xs1, xs2⟩ ⟨xid, xas, xvp, xip, xfr, xp0, xp1, xp2, xs0, xs1, xs2⟩ y6.drew
        rw [(lnB_iff _ _).2 rfl] at this
        exact this
      clear hA2 hcc hff hss hput hr6 hO6 hT6 hcA hmod
      refine wp_region_walked (S := Is y6.drew) (by kernel_rfl) (by kernel_rfl) rfl ?_
      apply walked_cons
      · intro wS hS; cases hS; go_wp2; exact ⟨rfl, rfl, rfl⟩
      · rfl
      (try simp only [Act.put, List.setIfInBounds_toArray, List.set_cons_succ, List.set_cons_zero])
      apply walked_cons
      · intro wS hS; cases hS; go_wp2; exact ⟨rfl, rfl, rfl⟩
      · rfl
      (try simp only [Act.put, List.setIfInBounds_toArray, List.set_cons_succ, List.set_cons_zero])
      apply walked_cons
      · intro wS hS; cases hS; go_wp2; exact ⟨rfl, rfl, rfl⟩
      · rfl
      (try simp only [Act.put, List.setIfInBounds_toArray, List.set_cons_succ, List.set_cons_zero])
      apply walked_cons
      · intro wS hS; cases hS; go_wp2; exact ⟨rfl, rfl, rfl⟩
      · rfl
      (try simp only [Act.put, List.setIfInBounds_toArray, List.set_cons_succ, List.set_cons_zero])
      apply walked_cons
      · intro wS hS; cases hS; go_wp2; exact ⟨rfl, rfl, rfl⟩
      · rfl
      (try simp only [Act.put, List.setIfInBounds_toArray, List.set_cons_succ, List.set_cons_zero])
      apply walked_cons
      · intro wS hS; cases hS; go_wp2; exact ⟨rfl, rfl, rfl⟩
      · rfl
      (try simp only [Act.put, List.setIfInBounds_toArray, List.set_cons_succ, List.set_cons_zero])
      apply walked_cons
      · intro wS hS; cases hS; go_wp2; exact ⟨rfl, rfl, rfl⟩
      · rfl
      (try simp only [Act.put, List.setIfInBounds_toArray, List.set_cons_succ, List.set_cons_zero])
      apply walked_cons
      · intro wS hS; cases hS; go_wp2; exact ⟨rfl, rfl, rfl⟩
      · rfl
      (try simp only [Act.put, List.setIfInBounds_toArray, List.set_cons_succ, List.set_cons_zero])
      apply walked_cons
      · intro wS hS; cases hS; go_wp2; exact ⟨rfl, rfl, rfl⟩
      · rfl
      (try simp only [Act.put, List.setIfInBounds_toArray, List.set_cons_succ, List.set_cons_zero])
      apply walked_cons
      · intro wS hS; cases hS; go_wp2; exact ⟨rfl, rfl, rfl⟩
      · rfl
      (try simp only [Act.put, List.setIfInBounds_toArray, List.set_cons_succ, List.set_cons_zero])
      apply walked_cons
      · intro wS hS; cases hS; go_wp2; exact ⟨rfl, rfl, rfl⟩
      · rfl
      (try simp only [Act.put, List.setIfInBounds_toArray, List.set_cons_succ, List.set_cons_zero])
      apply walked_cons
      · intro wS hS; cases hS; go_wp2; exact ⟨rfl, rfl, rfl⟩
      · rfl
      (try simp only [Act.put, List.setIfInBounds_toArray, List.set_cons_succ, List.set_cons_zero])
      apply walked_cons
      · intro wS hS; cases hS; go_wp2; exact ⟨rfl, rfl, rfl⟩
      · rfl
      (try simp only [Act.put, List.setIfInBounds_toArray, List.set_cons_succ, List.set_cons_zero])
      apply walked_cons
      · intro wS hS; cases hS; go_wp2; exact ⟨rfl, rfl, rfl⟩
      · rfl
      (try simp only [Act.put, List.setIfInBounds_toArray, List.set_cons_succ, List.set_cons_zero])
      apply walked_cons
      · intro wS hS; cases hS; go_wp2; exact ⟨rfl, rfl, rfl⟩
      · rfl
      (try simp only [Act.put, List.setIfInBounds_toArray, List.set_cons_succ, List.set_cons_zero])
      apply walked_cons
      · intro wS hS; cases hS; go_wp2; exact ⟨rfl, rfl, rfl⟩
      · rfl
      (try simp only [Act.put, List.setIfInBounds_toArray, List.set_cons_succ, List.set_cons_zero])
      apply walked_cons
      · intro wS hS; cases hS; go_wp2; exact ⟨rfl, rfl, rfl⟩
      · rfl
      (try simp only [Act.put, List.setIfInBounds_toArray, List.set_cons_succ, List.set_cons_zero])
      apply walked_cons
      · intro wS hS; cases hS; go_wp2; exact ⟨rfl, rfl, rfl⟩
      · rfl
      (try simp only [Act.put, List.setIfInBounds_toArray, List.set_cons_succ, List.set_cons_zero])
      apply walked_nil
      intro wS hS
      cases hS
      have hc9 : ¬ (wy : Int) < (c0 : Int) + 1 := by omega
      clear heq hcc6 hc8 ha0 ha1 ha2 ha3 ha4 ha5 ha6 ha7 ha8 ha9 ha10
      go_wp2
      clear hc9
      refine wp_loopF [false, false, false, false, false, false, false, false, false, false, false, false, false, false, false, false, false, false, false, false, false, false, false, false, false, false, false, false, true, true, false, false, false, false, false, false, false, false, false, false, false, false, false, false, false, false, false, false, false, false, false, false, false, false, false, false, false, false, false, false, false, false, false, false, false, false, false, false, false, false, false, false, false, false, false, false, false, false, false, false, false, false, false, false, false, false, false, false, false, false, false, false, false, false, false, false, false, false, false, false, false, false, false, false, false, false, false, false, false, false, false, false, false, false, false, false, false, false, false, false, false, false, false, false, false, false, false, false, false, false, false, false, false, false, false, false, false, false, false, false, false, false, false, false, false, false, false, false, false, false, false, false, false, false, false, false, false, false, false, false, false, false, false, false, false, false, false, false, false, false, false, false, false, false, false, false, false, false, false, false, false, false, false, false, false, false, false, false, false, false, false, false, false, false, false, false, false, false, false, false, false, false, false, false, false, false, false, false, false, false, false, false, false, false, false, false, false, false, false, false, false, false, false, false, false, false, false, false, false, false, false, false, false, false, false, false, false, false, false, false, false, false, false, true, true, true, true, true, true, true, true, true, true, true, true, true, true, true, true, true, true, true, true, true, true, true, true, true, true, true, true, true, true, true, true, true, true, true] (fun f wx => ∃ j : Nat, j ≤ last.length ∧ f 29 = .int .i64 (j : Nat) ∧ f 28 = .int .i64 (newI ⟨xid, xas, xvp, xip, xfr, xp0, xp1, xp2, xs0, xs1, xs2⟩ (last.take j) 0 (-1)) ∧ Old y6 wx) (fun f => last.length - (intOf (f 29)).toNat) ?start6 ?round6
      case start6 => exact ⟨0, by omega, rfl, rfl, old_drew (old_refl _)⟩
      case round6 =>
        intro f6 wq hrel J6 K6 hJ6 hM6
        dsimp only [mergeA, mergeL, Nat.reduceAdd]
        obtain ⟨j', hj', h29, h28, hO7⟩ := hrel
        rw [h29, h28]
        have H29 := Lib.hid h29
        have hr7 := keep_old hO7 H6.out.2.2.2
        obtain ⟨k1, f1', z1'⟩ := of_block hr7
        have H7 := Lib.hid (And.intro hO7 hr7)
        clear h29 h28 hO7 hr7
        by_cases hjl : j' = last.length
        · have e2 : ¬ (j' : Int) < last.length := by omega
          subst hjl
          rw [List.take_length, HK.out.1]
          have hkl : k < last.length := (List.getElem?_eq_some_iff.1 HK.out.2).1
          obtain ⟨gB, rfl⟩ := HB.out.2 (by omega)
          have hgB := HB.out.1.lt gB rfl
          have hO8 : Only (fun z => z = cb ∨ z ∈ bs) W wq := H6.out.2.1.trans ((Only.of_below H7.out.1).mono fun _ _ f => f.elim)
          have hcB : ∀ (cc : Nat) (u : Value), [Value.int .i64 xid, .int .i64 xas, .int .u64 (xvp : Nat), .int .u64 (xip : Nat), .int .i64 xfr, .bool xp0, .bool xp1, .bool xp2, .bool xs0, .bool xs1, .bool xs2][cc]? = some u → wq.cell? ⟨gB, k * 11 + cc, none⟩ = some u := fun cc u hu => by
            rw [hO8.cell gB _ (Nat.lt_of_lt_of_le hgB.2 HW.out.1.size) (by
              rintro (h | h)
              · have := hgB.2; have := HW.out.2.2.2; omega
              · have := (HF2.out.bB gB h).2; have := hgB.1; omega)]
            exact own_cell (own_old HB.out.1 HW.out.1) rfl _ (flatC_get ln_len last k _ cc u HK.out.2 hu)
          have hb0 : wq.cell? ⟨gB, k * 11, none⟩ = some (.int .i64 xid) := hcB 0 _ rfl
          have hb1 : wq.cell? ⟨gB, k * 11 + 1, none⟩ = some (.int .i64 xas) := hcB 1 _ rfl
          have hb2 : wq.cell? ⟨gB, k * 11 + 2, none⟩ = some (.int .u64 (xvp : Nat)) := hcB 2 _ rfl
          have hb3 : wq.cell? ⟨gB, k * 11 + 3, none⟩ = some (.int .u64 (xip : Nat)) := hcB 3 _ rfl
          have hb4 : wq.cell? ⟨gB, k * 11 + 4, none⟩ = some (.int .i64 xfr) := hcB 4 _ rfl
          have hb5 : wq.cell? ⟨gB, k * 11 + 5, none⟩ = some (.bool xp0) := hcB 5 _ rfl
          have hb6 : wq.cell? ⟨gB, k * 11 + 6, none⟩ = some (.bool xp1) := hcB 6 _ rfl
          have hb7 : wq.cell? ⟨gB, k * 11 + 7, none⟩ = some (.bool xp2) := hcB 7 _ rfl
          have hb8 : wq.cell? ⟨gB, k * 11 + 8, none⟩ = some (.bool xs0) := hcB 8 _ rfl
          have hb9 : wq.cell? ⟨gB, k * 11 + 9, none⟩ = some (.bool xs1) := hcB 9 _ rfl
          have hb10 : wq.cell? ⟨gB, k * 11 + 10, none⟩ = some (.bool xs2) := hcB 10 _ rfl
          have hkl' : (k : Int) < last.length := by omega
          have heq : (Op.equalIn 10000 64 (.agg #[Value.int .i64 xid, .int .i64 xas, .int .u64 (xvp : Nat), .int .u64 (xip : Nat), .int .i64 xfr, .bool xp0, .bool xp1, .bool xp2, .bool xs0, .bool xs1, .bool xs2]) (.agg #[Value.int .i64 xid, .int .i64 xas, .int .u64 (xvp : Nat), .int .u64 (xip : Nat), .int .i64 xfr, .bool xp0, .bool xp1, .bool xp2, .bool xs0, .bool xs1, .bool xs2])).run Try.prog wq.drew = .ok true wq.drew := by
            have := eq_line ⟨xid, xas, xvp, xip, xfr, xp0, xp1, xp2, xs0, xs1, xs2⟩ ⟨xid, xas, xvp, xip, xfr, xp0, xp1, xp2, xs0, xs1, xs2⟩ wq.drew
            rw [(lnB_iff _ _).2 rfl] at this
            exact this
          have H8 := Lib.hid hO8
          clear hkl hgB hO8 hcB hj'
          go_upto_region 47 with (fail)
          clear e2
          refine wp_region_walked (S := Is wq.drew) (by kernel_rfl) (by kernel_rfl) rfl ?_
          apply walked_cons
          · intro wS hS; cases hS; go_wp2; exact ⟨rfl, rfl, rfl⟩
          · rfl
          (try simp only [Act.put, List.setIfInBounds_toArray, List.set_cons_succ, List.set_cons_zero])
          apply walked_cons
          · intro wS hS; cases hS; go_wp2; exact ⟨rfl, rfl, rfl⟩
          · rfl
          (try simp only [Act.put, List.setIfInBounds_toArray, List.set_cons_succ, List.set_cons_zero])
          apply walked_cons
          · intro wS hS; cases hS; go_wp2; exact ⟨rfl, rfl, rfl⟩
          · rfl
          (try simp only [Act.put, List.setIfInBounds_toArray, List.set_cons_succ, List.set_cons_zero])
          apply walked_cons
          · intro wS hS; cases hS; go_wp2; exact ⟨rfl, rfl, rfl⟩
          · rfl
          (try simp only [Act.put, List.setIfInBounds_toArray, List.set_cons_succ, List.set_cons_zero])
          apply walked_cons
          · intro wS hS; cases hS; go_wp2; exact ⟨rfl, rfl, rfl⟩
          · rfl
          (try simp only [Act.put, List.setIfInBounds_toArray, List.set_cons_succ, List.set_cons_zero])
          apply walked_cons
          · intro wS hS; cases hS; go_wp2; exact ⟨rfl, rfl, rfl⟩
          · rfl
          (try simp only [Act.put, List.setIfInBounds_toArray, List.set_cons_succ, List.set_cons_zero])
          apply walked_cons
          · intro wS hS; cases hS; go_wp2; exact ⟨rfl, rfl, rfl⟩
          · rfl
          (try simp only [Act.put, List.setIfInBounds_toArray, List.set_cons_succ, List.set_cons_zero])
          apply walked_cons
          · intro wS hS; cases hS; go_wp2; exact ⟨rfl, rfl, rfl⟩
          · rfl
          (try simp only [Act.put, List.setIfInBounds_toArray, List.set_cons_succ, List.set_cons_zero])
          apply walked_cons
          · intro wS hS; cases hS; go_wp2; exact ⟨rfl, rfl, rfl⟩
          · rfl
          (try simp only [Act.put, List.setIfInBounds_toArray, List.set_cons_succ, List.set_cons_zero])
          apply walked_cons
          · intro wS hS; cases hS; go_wp2; exact ⟨rfl, rfl, rfl⟩
          · rfl
          (try simp only [Act.put, List.setIfInBounds_toArray, List.set_cons_succ, List.set_cons_zero])
          apply walked_nil
          intro wS hS
          cases hS
          clear heq hb0 hb1 hb2 hb3 hb4 hb5 hb6 hb7 hb8 hb9 hb10
          go_wp2
          refine Met.intro (hJ5 _ _ (by kernel_rfl) ?_ ?_)
          · exact ⟨i + 1, HLT.out, by show Value.int .i64 ((i : Int) + 1) = _; simp, tlb_old (tlb_old H6.out.1 H7.out.1) (old_drew (old_refl _)), H8.out.drew, keep_old (old_then H7.out.1 (old_drew (old_refl _))) H6.out.2.2.1⟩
          · rw [H24.out]
            show N - (intOf (Value.int .i64 ((i : Int) + 1))).toNat < N - (intOf (Value.int .i64 (i : Int))).toNat
            have := HLT.out
            simp [intOf]
            omega
        · have e2 : (j' : Int) < last.length := by omega
          have hjlt : j' < last.length := by omega
          obtain ⟨a, ha⟩ : ∃ a, last[j']? = some a := ⟨_, List.getElem?_eq_getElem hjlt⟩
          obtain ⟨gB, rfl⟩ := HB.out.2 (by omega)
          have hgB := HB.out.1.lt gB rfl
          have hO8 : Only (fun z => z = cb ∨ z ∈ bs) W wq := H6.out.2.1.trans ((Only.of_below H7.out.1).mono fun _ _ f => f.elim)
          have hcB : ∀ (cc : Nat) (u : Value), a.cells[cc]? = some u → wq.cell? ⟨gB, j' * 11 + cc, none⟩ = some u := fun cc u hu => by
            rw [hO8.cell gB _ (Nat.lt_of_lt_of_le hgB.2 HW.out.1.size) (by
              rintro (h | h)
              · have := hgB.2; have := HW.out.2.2.2; omega
              · have := (HF2.out.bB gB h).2; have := hgB.1; omega)]
            exact own_cell (own_old HB.out.1 HW.out.1) rfl _ (flatC_get ln_len last j' a cc u ha hu)
          have hc0' : wq.cell? ⟨gB, j' * 11, none⟩ = some (.int .i64 a.id) := hcB 0 _ rfl
          have hc1' : wq.cell? ⟨gB, j' * 11 + 1, none⟩ = some (.int .i64 a.asid) := hcB 1 _ rfl
          have hc2' : wq.cell? ⟨gB, j' * 11 + 2, none⟩ = some (.int .u64 (a.vp : Nat)) := hcB 2 _ rfl
          have htk := newI_take ⟨xid, xas, xvp, xip, xfr, xp0, xp1, xp2, xs0, xs1, xs2⟩ a last j' ha
          obtain ⟨b1, hb1⟩ : ∃ b1 : Bool, (a.id == xid) = b1 := ⟨_, rfl⟩
          obtain ⟨b2, hb2⟩ : ∃ b2 : Bool, (a.asid == xas) = b2 := ⟨_, rfl⟩
          obtain ⟨b3, hb3⟩ : ∃ b3 : Bool, ((a.vp : Int) == (xvp : Int)) = b3 := ⟨_, rfl⟩
          have hsk : sameK a ⟨xid, xas, xvp, xip, xfr, xp0, xp1, xp2, xs0, xs1, xs2⟩ = (b1 && b2 && b3) := by unfold sameK; rw [hb1, hb2, hb3, Bool.and_assoc]
          have HTK := Lib.hid (And.intro htk hsk)
          have HJ := Lib.hid hjlt
          clear hjl hj' hjlt ha hgB hO8 hcB htk hsk
          go_upto_region 45 with (fail)
          refine wp_region_walked (S := Is wq.drew) (by kernel_rfl) (by kernel_rfl) rfl ?_
          apply walked_cons
          · intro wS hS; cases hS; go_wp2; exact ⟨rfl, rfl, rfl⟩
          · rfl
          (try simp only [Act.put, List.setIfInBounds_toArray, List.set_cons_succ, List.set_cons_zero])
          apply walked_cons
          · intro wS hS; cases hS; go_wp2; exact ⟨rfl, rfl, rfl⟩
          · rfl
          (try simp only [Act.put, List.setIfInBounds_toArray, List.set_cons_succ, List.set_cons_zero])
          apply walked_cons
          · intro wS hS; cases hS; go_wp2; exact ⟨rfl, rfl, rfl⟩
          · rfl
          (try simp only [Act.put, List.setIfInBounds_toArray, List.set_cons_succ, List.set_cons_zero])
          apply walked_cons
          · intro wS hS; cases hS; go_wp2; exact ⟨rfl, rfl, rfl⟩
          · rfl
          (try simp only [Act.put, List.setIfInBounds_toArray, List.set_cons_succ, List.set_cons_zero])
          apply walked_cons
          · intro wS hS; cases hS; go_wp2; exact ⟨rfl, rfl, rfl⟩
          · rfl
          (try simp only [Act.put, List.setIfInBounds_toArray, List.set_cons_succ, List.set_cons_zero])
          apply walked_cons
          · intro wS hS; cases hS; go_wp2; exact ⟨rfl, rfl, rfl⟩
          · rfl
          (try simp only [Act.put, List.setIfInBounds_toArray, List.set_cons_succ, List.set_cons_zero])
          apply walked_cons
          · intro wS hS; cases hS; go_wp2; exact ⟨rfl, rfl, rfl⟩
          · rfl
          (try simp only [Act.put, List.setIfInBounds_toArray, List.set_cons_succ, List.set_cons_zero])
          apply walked_cons
          · intro wS hS; cases hS; go_wp2; exact ⟨rfl, rfl, rfl⟩
          · rfl
          (try simp only [Act.put, List.setIfInBounds_toArray, List.set_cons_succ, List.set_cons_zero])
          apply walked_cons
          · intro wS hS; cases hS; go_wp2; exact ⟨rfl, rfl, rfl⟩
          · rfl
          (try simp only [Act.put, List.setIfInBounds_toArray, List.set_cons_succ, List.set_cons_zero])
          apply walked_cons
          · apply gives_guard
            · (first | exact wanted_yes rfl rfl rfl | exact wanted_no rfl rfl rfl | exact wanted_yes2 rfl rfl rfl | exact wanted_no2 rfl rfl rfl)
            · intro hx9
              (try simp only [Bool.not_eq_true', Bool.and_eq_true, Bool.not_not] at hx9); (try obtain ⟨hx9, hy9⟩ := hx9); (try subst hy9); (try subst hx9)
              intro wS hS; cases hS; go_wp2; exact ⟨rfl, rfl, rfl⟩
          · rfl
          (try simp only [Act.put, List.setIfInBounds_toArray, List.set_cons_succ, List.set_cons_zero])
          apply walked_cons
          · apply gives_guard
            · (first | exact wanted_yes rfl rfl rfl | exact wanted_no rfl rfl rfl | exact wanted_yes2 rfl rfl rfl | exact wanted_no2 rfl rfl rfl)
            · intro hx9
              (try simp only [Bool.not_eq_true', Bool.and_eq_true, Bool.not_not] at hx9); (try obtain ⟨hx9, hy9⟩ := hx9); (try subst hy9); (try subst hx9)
              intro wS hS; cases hS; go_wp2; exact ⟨rfl, rfl, rfl⟩
          · rfl
          (try simp only [Act.put, List.setIfInBounds_toArray, List.set_cons_succ, List.set_cons_zero])
          apply walked_cons
          · apply gives_guard
            · (first | exact wanted_yes rfl rfl rfl | exact wanted_no rfl rfl rfl | exact wanted_yes2 rfl rfl rfl | exact wanted_no2 rfl rfl rfl)
            · intro hx9
              (try simp only [Bool.not_eq_true', Bool.and_eq_true, Bool.not_not] at hx9); (try obtain ⟨hx9, hy9⟩ := hx9); (try subst hy9); (try subst hx9)
              intro wS hS; cases hS; go_wp2; exact ⟨rfl, rfl, rfl⟩
          · rfl
          (try simp only [Act.put, List.setIfInBounds_toArray, List.set_cons_succ, List.set_cons_zero])
          apply walked_cons
          · apply gives_guard
            · (first | exact wanted_yes rfl rfl rfl | exact wanted_no rfl rfl rfl | exact wanted_yes2 rfl rfl rfl | exact wanted_no2 rfl rfl rfl)
            · intro hx9
              (try simp only [Bool.not_eq_true', Bool.and_eq_true, Bool.not_not] at hx9); (try obtain ⟨hx9, hy9⟩ := hx9); (try subst hy9); (try subst hx9)
              intro wS hS; cases hS; go_wp2; exact ⟨rfl, rfl, rfl⟩
          · rfl
          (try simp only [Act.put, List.setIfInBounds_toArray, List.set_cons_succ, List.set_cons_zero])
          apply walked_cons
          · apply gives_guard
            · (first | exact wanted_yes rfl rfl rfl | exact wanted_no rfl rfl rfl | exact wanted_yes2 rfl rfl rfl | exact wanted_no2 rfl rfl rfl)
            · intro hx9
              (try simp only [Bool.not_eq_true', Bool.and_eq_true, Bool.not_not] at hx9); (try obtain ⟨hx9, hy9⟩ := hx9); (try subst hy9); (try subst hx9)
              intro wS hS; cases hS; go_wp2; exact ⟨rfl, rfl, rfl⟩
          · rfl
          (try simp only [Act.put, List.setIfInBounds_toArray, List.set_cons_succ, List.set_cons_zero])
          apply walked_cons
          · apply gives_guard
            · (first | exact wanted_yes rfl rfl rfl | exact wanted_no rfl rfl rfl | exact wanted_yes2 rfl rfl rfl | exact wanted_no2 rfl rfl rfl)
            · intro hx9
              (try simp only [Bool.not_eq_true', Bool.and_eq_true, Bool.not_not] at hx9); (try obtain ⟨hx9, hy9⟩ := hx9); (try subst hy9); (try subst hx9)
              intro wS hS; cases hS; go_wp2; exact ⟨rfl, rfl, rfl⟩
          · rfl
          (try simp only [Act.put, List.setIfInBounds_toArray, List.set_cons_succ, List.set_cons_zero])
          apply walked_cons
          · apply gives_guard
            · (first | exact wanted_yes rfl rfl rfl | exact wanted_no rfl rfl rfl | exact wanted_yes2 rfl rfl rfl | exact wanted_no2 rfl rfl rfl)
            · intro hx9
              (try simp only [Bool.not_eq_true', Bool.and_eq_true, Bool.not_not] at hx9); (try obtain ⟨hx9, hy9⟩ := hx9); (try subst hy9); (try subst hx9)
              intro wS hS; cases hS; go_wp2; exact ⟨rfl, rfl, rfl⟩
          · rfl
          (try simp only [Act.put, List.setIfInBounds_toArray, List.set_cons_succ, List.set_cons_zero])
          apply walked_cons
          · apply gives_guard
            · (first | exact wanted_yes rfl rfl rfl | exact wanted_no rfl rfl rfl | exact wanted_yes2 rfl rfl rfl | exact wanted_no2 rfl rfl rfl)
            · intro hx9
              (try simp only [Bool.not_eq_true', Bool.and_eq_true, Bool.not_not] at hx9); (try obtain ⟨hx9, hy9⟩ := hx9); (try subst hy9); (try subst hx9)
              intro wS hS; cases hS; go_wp2; exact ⟨rfl, rfl, rfl⟩
          · rfl
          (try simp only [Act.put, List.setIfInBounds_toArray, List.set_cons_succ, List.set_cons_zero])
          apply walked_cons
          · exact gives_and rfl rfl rfl rfl
          · rfl
          (try simp only [Act.put, List.setIfInBounds_toArray, List.set_cons_succ, List.set_cons_zero])
          apply walked_cons
          · intro wS hS; cases hS; go_wp2; exact ⟨rfl, rfl, rfl⟩
          · rfl
          (try simp only [Act.put, List.setIfInBounds_toArray, List.set_cons_succ, List.set_cons_zero])
          apply walked_cons
          · apply gives_guard
            · (first | exact wanted_yes rfl rfl rfl | exact wanted_no rfl rfl rfl | exact wanted_yes2 rfl rfl rfl | exact wanted_no2 rfl rfl rfl)
            · intro hx9
              (try simp only [Bool.not_eq_true', Bool.and_eq_true, Bool.not_not] at hx9); (try obtain ⟨hx9, hy9⟩ := hx9); (try subst hy9); (try subst hx9)
              intro wS hS; cases hS; go_wp2; exact ⟨rfl, rfl, rfl⟩
          · rfl
          (try simp only [Act.put, List.setIfInBounds_toArray, List.set_cons_succ, List.set_cons_zero])
          apply walked_cons
          · apply gives_guard
            · (first | exact wanted_yes rfl rfl rfl | exact wanted_no rfl rfl rfl | exact wanted_yes2 rfl rfl rfl | exact wanted_no2 rfl rfl rfl)
            · intro hx9
              (try simp only [Bool.not_eq_true', Bool.and_eq_true, Bool.not_not] at hx9); (try obtain ⟨hx9, hy9⟩ := hx9); (try subst hy9); (try subst hx9)
              intro wS hS; cases hS; go_wp2; exact ⟨rfl, rfl, rfl⟩
          · rfl
          (try simp only [Act.put, List.setIfInBounds_toArray, List.set_cons_succ, List.set_cons_zero])
          apply walked_cons
          · apply gives_guard
            · (first | exact wanted_yes rfl rfl rfl | exact wanted_no rfl rfl rfl | exact wanted_yes2 rfl rfl rfl | exact wanted_no2 rfl rfl rfl)
            · intro hx9
              (try simp only [Bool.not_eq_true', Bool.and_eq_true, Bool.not_not] at hx9); (try obtain ⟨hx9, hy9⟩ := hx9); (try subst hy9); (try subst hx9)
              intro wS hS; cases hS; go_wp2; exact ⟨rfl, rfl, rfl⟩
          · rfl
          (try simp only [Act.put, List.setIfInBounds_toArray, List.set_cons_succ, List.set_cons_zero])
          apply walked_cons
          · apply gives_guard
            · (first | exact wanted_yes rfl rfl rfl | exact wanted_no rfl rfl rfl | exact wanted_yes2 rfl rfl rfl | exact wanted_no2 rfl rfl rfl)
            · intro hx9
              (try simp only [Bool.not_eq_true', Bool.and_eq_true, Bool.not_not] at hx9); (try obtain ⟨hx9, hy9⟩ := hx9); (try subst hy9); (try subst hx9)
              intro wS hS; cases hS; go_wp2; exact ⟨rfl, rfl, rfl⟩
          · rfl
          (try simp only [Act.put, List.setIfInBounds_toArray, List.set_cons_succ, List.set_cons_zero])
          apply walked_cons
          · apply gives_guard
            · (first | exact wanted_yes rfl rfl rfl | exact wanted_no rfl rfl rfl | exact wanted_yes2 rfl rfl rfl | exact wanted_no2 rfl rfl rfl)
            · intro hx9
              (try simp only [Bool.not_eq_true', Bool.and_eq_true, Bool.not_not] at hx9); (try obtain ⟨hx9, hy9⟩ := hx9); (try subst hy9); (try subst hx9)
              intro wS hS; cases hS; go_wp2; exact ⟨rfl, rfl, rfl⟩
          · rfl
          (try simp only [Act.put, List.setIfInBounds_toArray, List.set_cons_succ, List.set_cons_zero])
          apply walked_cons
          · apply gives_guard
            · (first | exact wanted_yes rfl rfl rfl | exact wanted_no rfl rfl rfl | exact wanted_yes2 rfl rfl rfl | exact wanted_no2 rfl rfl rfl)
            · intro hx9
              (try simp only [Bool.not_eq_true', Bool.and_eq_true, Bool.not_not] at hx9); (try obtain ⟨hx9, hy9⟩ := hx9); (try subst hy9); (try subst hx9)
              intro wS hS; cases hS; go_wp2; exact ⟨rfl, rfl, rfl⟩
          · rfl
          (try simp only [Act.put, List.setIfInBounds_toArray, List.set_cons_succ, List.set_cons_zero])
          apply walked_cons
          · apply gives_guard
            · (first | exact wanted_yes rfl rfl rfl | exact wanted_no rfl rfl rfl | exact wanted_yes2 rfl rfl rfl | exact wanted_no2 rfl rfl rfl)
            · intro hx9
              (try simp only [Bool.not_eq_true', Bool.and_eq_true, Bool.not_not] at hx9); (try obtain ⟨hx9, hy9⟩ := hx9); (try subst hy9); (try subst hx9)
              intro wS hS; cases hS; go_wp2; exact ⟨rfl, rfl, rfl⟩
          · rfl
          (try simp only [Act.put, List.setIfInBounds_toArray, List.set_cons_succ, List.set_cons_zero])
          apply walked_cons
          · apply gives_guard
            · (first | exact wanted_yes rfl rfl rfl | exact wanted_no rfl rfl rfl | exact wanted_yes2 rfl rfl rfl | exact wanted_no2 rfl rfl rfl)
            · intro hx9
              (try simp only [Bool.not_eq_true', Bool.and_eq_true, Bool.not_not] at hx9); (try obtain ⟨hx9, hy9⟩ := hx9); (try subst hy9); (try subst hx9)
              intro wS hS; cases hS; go_wp2; exact ⟨rfl, rfl, rfl⟩
          · rfl
          (try simp only [Act.put, List.setIfInBounds_toArray, List.set_cons_succ, List.set_cons_zero])
          apply walked_cons
          · exact gives_and rfl rfl rfl rfl
          · rfl
          (try simp only [Act.put, List.setIfInBounds_toArray, List.set_cons_succ, List.set_cons_zero])
          apply walked_nil
          intro wS hS
          cases hS
          clear hb1 hb2 hb3 hc0' hc1' hc2' k1 f1' z1'
          obtain ⟨c3, hc3⟩ : ∃ c3, (b1 && b2 && b3) = c3 := ⟨_, rfl⟩
          rw [hc3]
          have HC4 := Lib.hid hc3
          clear hc3
          cases c3
          · go_wp2
            refine Met.intro (hJ6 _ _ (by kernel_rfl) ?_ ?_)
            · exact ⟨j' + 1, HJ.out, by show Value.int .i64 ((j' : Int) + 1) = _; simp, by show Value.int .i64 _ = _; rw [HTK.out.1, HTK.out.2, HC4.out]; rfl, old_then H7.out.1 (old_drew (old_refl _))⟩
            · rw [H29.out]
              show last.length - (intOf (Value.int .i64 ((j' : Int) + 1))).toNat < last.length - (intOf (Value.int .i64 (j' : Int))).toNat
              have := HJ.out
              simp [intOf]
              omega
          · go_wp2
            refine Met.intro (hJ6 _ _ (by kernel_rfl) ?_ ?_)
            · exact ⟨j' + 1, HJ.out, by show Value.int .i64 ((j' : Int) + 1) = _; simp, by show Value.int .i64 _ = _; rw [HTK.out.1, HTK.out.2, HC4.out]; rfl, old_then H7.out.1 (old_drew (old_refl _))⟩
            · rw [H29.out]
              show last.length - (intOf (Value.int .i64 ((j' : Int) + 1))).toNat < last.length - (intOf (Value.int .i64 (j' : Int))).toNat
              have := HJ.out
              simp [intOf]
              omega
end Go.Proofs.Ytfiofjalpaeohaa
