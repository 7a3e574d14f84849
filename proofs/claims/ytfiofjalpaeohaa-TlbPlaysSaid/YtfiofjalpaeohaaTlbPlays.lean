/- The statements of layer 15: TlbPlays. -/
import Derived.Test.YtfiofjalpaeohaaTlbLoseL
import Derived.Test.YtfiofjalpaeohaaTlbTold2
import Derived.Test.YtfiofjalpaeohaaTlbArg
import Derived.Test.YtfiofjalpaeohaaFrame
namespace Go.Proofs.Ytfiofjalpaeohaa
set_option linter.unusedVariables false
set_option linter.unusedSimpArgs false
open Go.RowKit

theorem kindT (k : Int) : ∃ K : Int, (0 ≤ K ∧ K < 12) ∧ (wrap64 (k.tmod 12 + 12)).tmod 12 = K := by
  have a1 : k.tmod 12 < 12 := Int.tmod_lt_of_pos k (by omega)
  have a2 : -12 < k.tmod 12 := by
    by_cases h : 0 ≤ k
    · have := Int.tmod_nonneg (12 : Int) h; omega
    · have e : k.tmod 12 = -((-k).tmod 12) := by rw [Int.neg_tmod, Int.neg_neg]
      have := Int.tmod_lt_of_pos (-k) (show (0 : Int) < 12 by omega)
      omega
  have b1 := Int.tmod_nonneg (12 : Int) (show 0 ≤ k.tmod 12 + 12 by omega)
  have b2 : (k.tmod 12 + 12).tmod 12 < 12 := Int.tmod_lt_of_pos _ (by omega)
  refine ⟨(k.tmod 12 + 12).tmod 12, ⟨by omega, by omega⟩, ?_⟩
  rw [IntWalk.wrap64_in _ (by omega)]
def PlayC (W : World) (bs : List Nat) (L ob : Nat) (C : Array Value) (x : World) : Prop := Only (fun b => b ∈ bs ∨ b = L) W x ∧ x.heap[ob]? = some (.cells C 72)
/-- The state between two steps. -/
structure PlayAt (w : World) (p gs : Nat) (bs : List Nat) (n wy q L N : Nat) (T : List (List Pl)) (x : World) : Prop where
  tlb : IsTlb x p gs bs n wy T
  rt : IsRT x q L n wy N T.flatten
  tidy : Tidy n wy T
  old : Old w x
section
variable {w x y W : World} {p gs : Nat} {bs : List Nat} {n wy q L N ob : Nat} {T T' : List (List Pl)} {C : Array Value}
theorem playC_a (h : PlayC W bs L ob C x) (ho : Only (fun z => z ∈ bs) x y) (h1 : ¬ ob ∈ bs) : PlayC W bs L ob C y := ⟨h.1.trans (ho.mono fun _ _ e => .inl e), keep_only ho h1 h.2⟩
theorem playC_b (h : PlayC W bs L ob C x) (ho : Only (fun z => z = L) x y) (h1 : ¬ ob = L) : PlayC W bs L ob C y := ⟨h.1.trans (ho.mono fun _ _ e => .inr e), keep_only ho h1 h.2⟩
theorem play_old (h : PlayAt w p gs bs n wy q L N T x) (ho : Old x y) : PlayAt w p gs bs n wy q L N T y := ⟨tlb_old h.tlb ho, rt_old h.rt ho, h.tidy, old_then h.old ho⟩
theorem play_lt (h : PlayAt w p gs bs n wy q L N T x) : ¬ x.heap.size ∈ bs ∧ ¬ x.heap.size = L :=
  ⟨fun e => by have := (tlb_lt h.tlb).2.2 _ e; omega, fun e => by have := lt_of_block h.rt.hL; omega⟩
theorem old_only2 (h : Old w x) (ho : Only (fun b => b ∈ bs ∨ b = L) x y) (hb : ∀ b ∈ bs, w.heap.size ≤ b) (hL : w.heap.size ≤ L) : Old w y :=
  old_stepT h ho (fun b e => by rcases e with e | e; exact hb b e; (rw [e]; exact hL))

set_option maxHeartbeats 32000000 in
set_option maxRecDepth 100000 in
theorem tlbPlays_walk (st : Int) (hst : (Lit.int .i64 st).wf = true) (ww : Int) (hww : (Lit.int .i64 ww).wf = true) (ad : Option Addr) (l : List TOp) (c : Nat) (w : World) (hN : l.length ≤ maxLen) (hOps : TOps w ad l) :
    Calls Try.prog 7 #[.int .i64 st, .int .i64 ww, .slice ad l.length c] w (RetB w (.bool true)) := by
  have hl63 : l.length ≤ 9223372036854775807 := by unfold maxLen at hN; omega
  have HOps := Lib.hid hOps
  have htold := fun x => told15_calls x
  have HTold := Lib.hid htold
  clear hN hOps hst hww htold
  by_cases hgood : okK st 7 = true ∧ 1 ≤ ww ∧ ww ≤ 8
  case neg =>
    have hb : okK st 7 = false ∨ ww < 1 ∨ 8 < ww := by
      by_cases h1 : okK st 7 = true
      · have h2 : ¬ (1 ≤ ww ∧ ww ≤ 8) := fun h => hgood ⟨h1, h⟩
        exact .inr (by omega)
      · exact .inl (by simpa using h1)
    have h1 := fun x => tlbNew_bad (w := x) st ww hb
    have h2 := fun x => refNew_bad (w := x) st ww hb
    have H2 := Lib.hid h2
    have hc := h1 w
    clear hgood hb h1 h2
    go_enter Try.func7, Try.ntmps7
    go_wp2_with fail
    (with_reducible refine hc.mono ?_)
    rintro e x1 ⟨rfl, hO1⟩
    have HO1 := Lib.hid hO1
    have hc2 := H2.out x1
    clear hc hO1
    go_wp2_with fail
    (with_reducible refine hc2.mono ?_)
    rintro e x2 ⟨rfl, hO2⟩
    have HO2 := Lib.hid (old_then HO1.out hO2)
    have hc3 := HTold.out x2
    clear hc2 hO2
    go_wp2
    refine wp_loopF [false, false, false, false, false, false, true, false, false, false, false, true, true, true, true, true, true, true, true, true, true, true, true, true, false, false, false, false, false, false, false, false, false, false, false, false, false, false, false, false, false, false, false, false, false, false, true, true, true, true, true, true, true, true, true, true, true, true, true, true, true, true, true, true, true, true, true, true, true, true, true, true, true, true, true, true, true, true, true, true, true, true, true, true, true, true, true, true, true, true, true, true, true, true, true, true, true, true, true, true, true, true, true, true, true, true, true, true, true, true, true, true, true, true, true, true, true, true, true, true, true, true, true, true, true, true, true, true, true, true, true, true, true, true, true, true, true, true, true, true, true, true, true, true, true, true, true, true, true, true, true, true, true, true, true, true, true, true, true, true, true, true, true, true, true, true, true, true, true, true] (fun f wx => ∃ z : Int, f 11 = .int .i64 z ∧ z = 0 ∧ wx = x2) (fun f => 0) ?start0 ?round0
    case start0 => exact ⟨0, rfl, rfl, rfl⟩
    case round0 =>
      intro f2 wr hrel J2 K2 hJ2 hM2
      dsimp only [mergeA, mergeL, Nat.reduceAdd]
      obtain ⟨z, h11, rfl, rfl⟩ := hrel
      rw [h11]
      clear h11
      by_cases hl0 : l.length = 0
      · rw [hl0]
        clear hl0
        go_wp2_with fail
        (with_reducible refine hc3.mono ?_)
        rintro e x3 ⟨rfl, hO3⟩
        have HO3 := Lib.hid (old_then HO2.out hO3)
        clear hO3 hc3
        go_wp2
        go_ret
        exact ⟨rfl, HO3.out⟩
      · have hl1 : (0 : Int) < (l.length : Nat) := by omega
        clear hl0
        go_wp2_with fail
        (with_reducible refine hc3.mono ?_)
        rintro e x3 ⟨rfl, hO3⟩
        have HO3 := Lib.hid (old_then HO2.out hO3)
        clear hO3 hc3
        go_wp2
        go_ret
        exact ⟨rfl, HO3.out⟩
  obtain ⟨hok, hw1, hw8⟩ := hgood
  obtain ⟨n, rfl, hn⟩ := okK_setsB hok
  obtain ⟨wy, rfl⟩ : ∃ wy : Nat, ww = wy := ⟨ww.toNat, by omega⟩
  have hw : 1 ≤ wy ∧ wy ≤ 8 := by omega
  have h1 := tlbNew_calls w n wy hn hw
  have h2 := fun x => refNew_calls (w := x) n wy hn hw
  have H2 := Lib.hid h2
  clear hok hw1 hw8 hn hw h2
  go_enter Try.func7, Try.ntmps7
  go_wp2_with fail
  (with_reducible refine h1.mono ?_)
  rintro e x1 ⟨p, gs, bs, rfl, hT1, hO1, hp1, hg1, hb1⟩
  have HX1 := Lib.hid (And.intro hT1 (And.intro hO1 (And.intro hp1 (And.intro hg1 hb1))))
  have hc2 := H2.out x1
  clear h1 hT1 hO1 hp1 hg1 hb1
  go_wp2_with fail
  (with_reducible refine hc2.mono ?_)
  rintro e x2 ⟨q, L, N, rfl, hR2, hO2, hq2, hL2⟩
  have HF0 : Hid (PlayAt w p gs bs n wy q L N (List.replicate n (List.replicate wy pl0)) x2) := Lib.hid ⟨tlb_old HX1.out.1 hO2, by
    have e : (List.replicate n (List.replicate wy pl0)).flatten = List.replicate N pl0 := by rw [List.flatten_replicate_replicate, hR2.hN]
    rw [e]; exact hR2, tidy_new n wy, old_then HX1.out.2.1 hO2⟩
  have HSEP : Hid (Sep p gs bs q L) := Lib.hid (by
    obtain ⟨a1, a2, a3⟩ := tlb_lt HX1.out.1
    exact ⟨fun e => by have := a3 _ e; omega, fun e => by have := a3 _ e; omega, by omega, by omega⟩)
  have HLOW : Hid ((∀ b ∈ bs, w.heap.size ≤ b) ∧ w.heap.size ≤ L) := Lib.hid ⟨HX1.out.2.2.2.2, by have := HX1.out.2.1.size; omega⟩
  clear hc2 hR2 hO2 hq2 hL2 HX1 H2
  go_wp2
  refine wp_loopF [false, false, false, false, false, false, true, false, false, false, false, true, true, true, true, true, true, true, true, true, true, true, true, true, false, false, false, false, false, false, false, false, false, false, false, false, false, false, false, false, false, false, false, false, false, false, true, true, true, true, true, true, true, true, true, true, true, true, true, true, true, true, true, true, true, true, true, true, true, true, true, true, true, true, true, true, true, true, true, true, true, true, true, true, true, true, true, true, true, true, true, true, true, true, true, true, true, true, true, true, true, true, true, true, true, true, true, true, true, true, true, true, true, true, true, true, true, true, true, true, true, true, true, true, true, true, true, true, true, true, true, true, true, true, true, true, true, true, true, true, true, true, true, true, true, true, true, true, true, true, true, true, true, true, true, true, true, true, true, true, true, true, true, true, true, true, true, true, true, true] (fun f wx => ∃ (i : Nat) (T : List (List Pl)), i ≤ l.length ∧ i ≤ 80 ∧ f 11 = .int .i64 (i : Nat) ∧ PlayAt w p gs bs n wy q L N T wx) (fun f => 80 - (intOf (f 11)).toNat) ?start1 ?round1
  case start1 => exact ⟨0, _, by omega, by omega, rfl, HF0.out⟩
  case round1 =>
    intro f2 wr hrel J2 K2 hJ2 hM2
    dsimp only [mergeA, mergeL, Nat.reduceAdd]
    clear HF0
    obtain ⟨i, T, hi, hi80, h11, hF⟩ := hrel
    rw [h11]
    have H11 := Lib.hid h11
    clear h11
    have HF := Lib.hid hF
    clear hF
    by_cases hil : i = l.length
    · have e1 : ¬ (i : Int) < l.length := by omega
      have hc3 := HTold.out wr
      clear hil hi hi80
      go_wp2_with fail
      (with_reducible refine hc3.mono ?_)
      rintro e x3 ⟨rfl, hO3⟩
      have HO3 := Lib.hid (old_then HF.out.old hO3)
      clear hO3 hc3
      go_wp2
      go_ret
      exact ⟨rfl, HO3.out⟩
    have e1 : (i : Int) < l.length := by omega
    by_cases h80 : i = 80
    · have e2 : ¬ (i : Int) < 80 := by omega
      have hc3 := HTold.out wr
      clear hil hi hi80 h80
      go_wp2_with fail
      (with_reducible refine hc3.mono ?_)
      rintro e x3 ⟨rfl, hO3⟩
      have HO3 := Lib.hid (old_then HF.out.old hO3)
      clear hO3 hc3
      go_wp2
      go_ret
      exact ⟨rfl, HO3.out⟩
    have e2 : (i : Int) < 80 := by omega
    have hlt : i < l.length := by omega
    have HLT := Lib.hid (And.intro hlt (show i < 80 by omega))
    obtain ⟨op, ho⟩ : ∃ op, l[i]? = some op := ⟨_, List.getElem?_eq_getElem hlt⟩
    obtain ⟨_, b0, off, rfl, hb0, hc⟩ := tops_old HOps.out HF.out.old i op ho
    obtain ⟨okd, ost, owy, ⟨oid, oas, ovp, oip, ofr, op0, op1, op2, os0, os1, os2⟩⟩ := op
    have hcl : ∀ (c : Nat) (v : Value), [Value.int .i64 okd, .int .i64 ost, .int .i64 owy, .int .i64 oid, .int .i64 oas, .int .u64 (ovp : Nat), .int .u64 (oip : Nat), .int .i64 ofr, .bool op0, .bool op1, .bool op2, .bool os0, .bool os1, .bool os2][c]? = some v → wr.cell? ⟨b0, off + i * 14 + c, none⟩ = some v := hc
    have HCL := Lib.hid hcl
    clear hil hi hi80 h80 hlt ho hb0 hc hcl
    go_upto_region 9 with (refine wpList_load_at rfl 72 _ rfl b0 (off + i * 14) rfl [Value.int .i64 okd, .int .i64 ost, .int .i64 owy, .int .i64 oid, .int .i64 oas, .int .u64 (ovp : Nat), .int .u64 (oip : Nat), .int .i64 ofr, .bool op0, .bool op1, .bool op2, .bool os0, .bool os1, .bool os2] _ HCL.out Try.underlying72 rfl (by kernel_rfl) ?_)
    have hO := old_alloc (old_refl wr) (.cells #[Value.int .i64 okd, .int .i64 ost, .int .i64 owy, .int .i64 oid, .int .i64 oas, .int .u64 (ovp : Nat), .int .u64 (oip : Nat), .int .i64 ofr, .bool op0, .bool op1, .bool op2, .bool os0, .bool os1, .bool os2] 72)
    have hnb := new_block wr (.cells #[Value.int .i64 okd, .int .i64 ost, .int .i64 owy, .int .i64 oid, .int .i64 oas, .int .u64 (ovp : Nat), .int .u64 (oip : Nat), .int .i64 ofr, .bool op0, .bool op1, .bool op2, .bool os0, .bool os1, .bool os2] 72)
    have hF2 := play_old HF.out hO
    obtain ⟨n1, n2⟩ := play_lt HF.out
    generalize wr.alloc (.cells #[Value.int .i64 okd, .int .i64 ost, .int .i64 owy, .int .i64 oid, .int .i64 oas, .int .u64 (ovp : Nat), .int .u64 (oip : Nat), .int .i64 ofr, .bool op0, .bool op1, .bool op2, .bool os0, .bool os1, .bool os2] 72) = wr2 at *
    obtain ⟨ob, hob⟩ : ∃ ob, ob = wr.heap.size := ⟨_, rfl⟩
    rw [← hob] at hnb n1 n2 ⊢
    have HOB := Lib.hid (And.intro hnb (And.intro n1 n2))
    clear HF hob n1 n2 hO HCL
    have HF := Lib.hid hF2
    obtain ⟨k1, -, z1⟩ := of_block hnb
    clear hF2 hnb
    obtain ⟨K, hK12, hK⟩ := kindT okd
    have HK12 := Lib.hid hK12
    clear hK12
    go_upto_block 2 with (fail)
    refine wp_cutF [false, false, false, false, false, false, true, false, false, false, false, false, false, false, true, true, true, true, true, true, false, false, false, false, false, false, false, false, false, false, false, false, false, false, false, false, false, false, false, false, false, false, false, false, false, false, false, false, false, false, false, false, false, false, false, false, false, false, false, false, false, false, false, false, false, false, false, false, false, true, true, true, true, true, true, true, true, true, true, true, true, true, true, true, true, true, true, true, true, true, true, true, true, true, true, true, true, true, true, true, true, true, true, true, true, true, true, true, true, true, true, true, true, true, true, true, true, true, true, true, true, true, true, true, true, true] (fun f wx => ∃ (z : World) (T' : List (List Pl)), z = wx ∧ PlayAt w p gs bs n wy q L N T' z ∧ z.heap[ob]? = some (.cells #[Value.int .i64 okd, .int .i64 ost, .int .i64 owy, .int .i64 oid, .int .i64 oas, .int .u64 (ovp : Nat), .int .u64 (oip : Nat), .int .i64 ofr, .bool op0, .bool op1, .bool op2, .bool os0, .bool os1, .bool os2] 72)) ?rest3 ?first3
    case first3 =>
      intro J1 K1 hJ1 hM1
      by_cases hK5 : K < 5
      · -- a line laid
        obtain ⟨r, T', hP⟩ := fill_pair HF.out.tlb HF.out.tidy HF.out.rt ⟨oid, oas, ovp, oip, ofr, op0, op1, op2, os0, os1, os2⟩ owy
        obtain ⟨on, ⟨qid, qas, qvp, qip, qfr, qp0, qp1, qp2, qs0, qs1, qs2⟩⟩ := r
        have hc : Calls _ _ #[.pointer (some ⟨p, 0, none⟩), .agg #[Value.int .i64 oid, .int .i64 oas, .int .u64 (ovp : Nat), .int .u64 (oip : Nat), .int .i64 ofr, .bool op0, .bool op1, .bool op2, .bool os0, .bool os1, .bool os2], .int .i64 owy] _ (fun e y => e = .returned (.tuple #[.agg #[Value.int .i64 qid, .int .i64 qas, .int .u64 (qvp : Nat), .int .u64 (qip : Nat), .int .i64 qfr, .bool qp0, .bool qp1, .bool qp2, .bool qs0, .bool qs1, .bool qs2], .bool on]) ∧ IsTlb y p gs bs n wy T' ∧ Only (fun z => z ∈ bs) wr2 y) := hP.a wr2 HF.out.tlb
        have hcb : ∀ x, IsRT x q L n wy N T.flatten → Calls Try.prog 42 #[.pointer (some ⟨q, 0, none⟩), .agg #[Value.int .i64 oid, .int .i64 oas, .int .u64 (ovp : Nat), .int .u64 (oip : Nat), .int .i64 ofr, .bool op0, .bool op1, .bool op2, .bool os0, .bool os1, .bool os2], .int .i64 owy] x (fun e y => e = .returned (.tuple #[.agg #[Value.int .i64 qid, .int .i64 qas, .int .u64 (qvp : Nat), .int .u64 (qip : Nat), .int .i64 qfr, .bool qp0, .bool qp1, .bool qp2, .bool qs0, .bool qs1, .bool qs2], .bool on]) ∧ IsRT y q L n wy N T'.flatten ∧ Only (fun z => z = L) x y) := hP.b
        have HP := Lib.hid (And.intro hcb hP.t)
        have heq := eq_line ⟨qid, qas, qvp, qip, qfr, qp0, qp1, qp2, qs0, qs1, qs2⟩ ⟨qid, qas, qvp, qip, qfr, qp0, qp1, qp2, qs0, qs1, qs2⟩
        rw [(lnB_iff _ _).2 rfl] at heq
        dsimp only [Ln.cells] at heq
        have HEQ := Lib.hid heq
        clear hP hcb heq
        go_wp2_with fail
        (with_reducible refine hc.mono ?_)
        rintro e y1 ⟨rfl, hT1, hO1⟩
        have hnb1 := keep_only hO1 HOB.out.2.1 HOB.out.1
        have hR1 := rt_only HF.out.rt hO1 HSEP.out.qb HSEP.out.Lb
        have hw1 := old_stepT HF.out.old hO1 HLOW.out.1
        have HY := Lib.hid (And.intro hT1 (And.intro hnb1 (And.intro hR1 hw1)))
        clear hT1 hO1 hR1 hw1 k1 z1 hc
        obtain ⟨k1, -, z1⟩ := of_block hnb1
        clear hnb1
        go_upto_region 15 with (fail)
        have hO := old_alloc (old_refl y1) (.cells #[Value.int .i64 qid, .int .i64 qas, .int .u64 (qvp : Nat), .int .u64 (qip : Nat), .int .i64 qfr, .bool qp0, .bool qp1, .bool qp2, .bool qs0, .bool qs1, .bool qs2] 64)
        have hra := new_block y1 (.cells #[Value.int .i64 qid, .int .i64 qas, .int .u64 (qvp : Nat), .int .u64 (qip : Nat), .int .i64 qfr, .bool qp0, .bool qp1, .bool qp2, .bool qs0, .bool qs1, .bool qs2] 64)
        generalize y1.alloc (.cells #[Value.int .i64 qid, .int .i64 qas, .int .u64 (qvp : Nat), .int .u64 (qip : Nat), .int .i64 qfr, .bool qp0, .bool qp1, .bool qp2, .bool qs0, .bool qs1, .bool qs2] 64) = y2 at *
        obtain ⟨ra, hrae⟩ : ∃ ra, ra = y1.heap.size := ⟨_, rfl⟩
        rw [← hrae] at hra ⊢
        have hnb2 := keep_old hO HY.out.2.1
        have HY2 := Lib.hid (And.intro (tlb_old HY.out.1 hO) (And.intro hnb2 (And.intro (rt_old HY.out.2.2.1 hO) (And.intro (old_then HY.out.2.2.2 hO) (And.intro hra (show ¬ ra = L from fun e => by have := lt_of_block HY.out.2.2.1.hL; omega))))))
        have hc := HP.out.1 y2 HY2.out.2.2.1
        clear hO hra hrae k1 z1 HY
        obtain ⟨k1, -, z1⟩ := of_block hnb2
        clear hnb2
        go_wp2_with fail
        (with_reducible refine hc.mono ?_)
        rintro e y3 ⟨rfl, hR3, hO3⟩
        have hnb3 := keep_only hO3 HOB.out.2.2 HY2.out.2.1
        have hra3 := keep_only hO3 HY2.out.2.2.2.2.2 HY2.out.2.2.2.2.1
        have hT3 := tlb_only HY2.out.1 hO3 HSEP.out.pL HSEP.out.gL (fun b hb e => HSEP.out.Lb (by rw [← e]; exact hb))
        have hw3 := old_stepT HY2.out.2.2.2.1 hO3 (fun b e => by rw [e]; exact HLOW.out.2)
        have HY3 := Lib.hid (And.intro hT3 (And.intro hnb3 (And.intro hR3 (And.intro hw3 hra3))))
        clear hR3 hO3 hnb3 hra3 hT3 hw3 k1 z1 hc HY2
        go_upto_region 16 with (fail)
        have hO := old_alloc (old_refl y3) (.cells #[Value.int .i64 qid, .int .i64 qas, .int .u64 (qvp : Nat), .int .u64 (qip : Nat), .int .i64 qfr, .bool qp0, .bool qp1, .bool qp2, .bool qs0, .bool qs1, .bool qs2] 64)
        have hrb := new_block y3 (.cells #[Value.int .i64 qid, .int .i64 qas, .int .u64 (qvp : Nat), .int .u64 (qip : Nat), .int .i64 qfr, .bool qp0, .bool qp1, .bool qp2, .bool qs0, .bool qs1, .bool qs2] 64)
        generalize y3.alloc (.cells #[Value.int .i64 qid, .int .i64 qas, .int .u64 (qvp : Nat), .int .u64 (qip : Nat), .int .i64 qfr, .bool qp0, .bool qp1, .bool qp2, .bool qs0, .bool qs1, .bool qs2] 64) = y4 at *
        generalize y3.heap.size = rb at *
        have hra4 := keep_old hO HY3.out.2.2.2.2
        have HY4 : Hid (PlayAt w p gs bs n wy q L N T' y4 ∧ y4.heap[ob]? = some (.cells #[Value.int .i64 okd, .int .i64 ost, .int .i64 owy, .int .i64 oid, .int .i64 oas, .int .u64 (ovp : Nat), .int .u64 (oip : Nat), .int .i64 ofr, .bool op0, .bool op1, .bool op2, .bool os0, .bool os1, .bool os2] 72)) := Lib.hid ⟨⟨tlb_old HY3.out.1 hO, rt_old HY3.out.2.2.1 hO, HP.out.2, old_then HY3.out.2.2.2.1 hO⟩, keep_old hO HY3.out.2.1⟩
        obtain ⟨ka, -, za⟩ := of_block hra4
        obtain ⟨kb, -, zb⟩ := of_block hrb
        have heq := HEQ.out
        clear hO hrb hra4 HY3 HF HP
        go_wp2
        refine Met.intro (hJ1 _ _ (by kernel_rfl) ?_)
        exact ⟨_, T', rfl, HY4.out.1, HY4.out.2⟩
      have hK6 : 5 ≤ K := by omega
      clear hK5
      by_cases hKe : K = 5
      · -- a place emptied
        subst hKe
        obtain ⟨v, T', hP⟩ := evict_pair HF.out.tlb HF.out.tidy HF.out.rt ost owy
        have HP := Lib.hid hP
        clear hP hK6
        go_upto_region 19 with (fail)
        have h0 : PairS 5 11 (TA p gs bs n wy T) (TA p gs bs n wy T') (RA q L n wy N T.flatten) (RA q L n wy N T'.flatten) (PlayC wr2 bs L ob #[Value.int .i64 okd, .int .i64 ost, .int .i64 owy, .int .i64 oid, .int .i64 oas, .int .u64 (ovp : Nat), .int .u64 (oip : Nat), .int .i64 ofr, .bool op0, .bool op1, .bool op2, .bool os0, .bool os1, .bool os2]) (Array.replicate 13 false) wr2.drew :=
          pairS_start (tlb_old HF.out.tlb (old_drew (old_refl _))) (rt_old HF.out.rt (old_drew (old_refl _))) ⟨(Only.refl _ wr2).drew, HOB.out.1⟩
        refine wp_region_staged (S := PairS 5 11 (TA p gs bs n wy T) (TA p gs bs n wy T') (RA q L n wy N T.flatten) (RA q L n wy N T'.flatten) (PlayC wr2 bs L ob #[Value.int .i64 okd, .int .i64 ost, .int .i64 owy, .int .i64 oid, .int .i64 oas, .int .u64 (ovp : Nat), .int .u64 (oip : Nat), .int .i64 ofr, .bool op0, .bool op1, .bool op2, .bool os0, .bool os1, .bool os2])) 13 (by kernel_rfl) (by kernel_rfl) (by kernel_rfl) (by decide) h0 ?_
        clear h0 k1 z1
        apply walkedS_cons
        · intro l9 wS hz hn hS
          have HD := Lib.hid (pairS_other 0 (by decide) (by decide) hS)
          obtain ⟨k9, -, -⟩ := of_block hS.2.2.2
          clear hS hz hn
          go_wp2
          exact ⟨rfl, rfl, HD.out⟩
        · rfl
        (try simp only [Act.put, List.setIfInBounds_toArray, List.set_cons_succ, List.set_cons_zero])
        apply walkedS_cons
        · intro l9 wS hz hn hS
          have HD := Lib.hid (pairS_other 1 (by decide) (by decide) hS)
          obtain ⟨k9, -, -⟩ := of_block hS.2.2.2
          clear hS hz hn
          go_wp2
          exact ⟨rfl, rfl, HD.out⟩
        · rfl
        (try simp only [Act.put, List.setIfInBounds_toArray, List.set_cons_succ, List.set_cons_zero])
        apply walkedS_cons
        · intro l9 wS hz hn hS
          have HD := Lib.hid (pairS_other 2 (by decide) (by decide) hS)
          obtain ⟨k9, -, -⟩ := of_block hS.2.2.2
          clear hS hz hn
          go_wp2
          exact ⟨rfl, rfl, HD.out⟩
        · rfl
        (try simp only [Act.put, List.setIfInBounds_toArray, List.set_cons_succ, List.set_cons_zero])
        apply walkedS_cons
        · intro l9 wS hz hn hS
          have HD := Lib.hid (pairS_other 3 (by decide) (by decide) hS)
          obtain ⟨k9, -, -⟩ := of_block hS.2.2.2
          clear hS hz hn
          go_wp2
          exact ⟨rfl, rfl, HD.out⟩
        · rfl
        (try simp only [Act.put, List.setIfInBounds_toArray, List.set_cons_succ, List.set_cons_zero])
        apply walkedS_cons
        · intro l9 wS hz hn hS
          have HD := Lib.hid (pairS_other 4 (by decide) (by decide) hS)
          obtain ⟨k9, -, -⟩ := of_block hS.2.2.2
          clear hS hz hn
          go_wp2
          exact ⟨rfl, rfl, HD.out⟩
        · rfl
        (try simp only [Act.put, List.setIfInBounds_toArray, List.set_cons_succ, List.set_cons_zero])
        apply walkedS_cons
        · intro l9 wS hz hn hS
          obtain ⟨hA9, hB9, hC⟩ := hS
          rw [hn] at hA9
          have hc := HP.out.a wS hA9
          have HQ := Lib.hid (And.intro hz (And.intro hB9 hC))
          clear hA9 hB9 hC hz hn
          go_wp2_with fail
          (with_reducible refine hc.mono ?_)
          rintro e y9 ⟨rfl, hI, hO⟩
          have HD : Hid (PairS 5 11 (TA p gs bs n wy T) (TA p gs bs n wy T') (RA q L n wy N T.flatten) (RA q L n wy N T'.flatten) (PlayC wr2 bs L ob #[Value.int .i64 okd, .int .i64 ost, .int .i64 owy, .int .i64 oid, .int .i64 oas, .int .u64 (ovp : Nat), .int .u64 (oip : Nat), .int .i64 ofr, .bool op0, .bool op1, .bool op2, .bool os0, .bool os1, .bool os2]) (l9.setIfInBounds 5 true) y9) := Lib.hid (pairS_first HQ.out.1 (by decide) (by decide) hI (both_rt HQ.out.2.1 hO HSEP.out) (playC_a HQ.out.2.2 hO HOB.out.2.1))
          clear hI hO hc
          go_wp2
          exact ⟨rfl, rfl, HD.out⟩
        · rfl
        (try simp only [Act.put, List.setIfInBounds_toArray, List.set_cons_succ, List.set_cons_zero])
        apply walkedS_cons
        · intro l9 wS hz hn hS
          have HD := Lib.hid (pairS_other 6 (by decide) (by decide) hS)
          obtain ⟨k9, -, -⟩ := of_block hS.2.2.2
          clear hS hz hn
          go_wp2
          exact ⟨rfl, rfl, HD.out⟩
        · rfl
        (try simp only [Act.put, List.setIfInBounds_toArray, List.set_cons_succ, List.set_cons_zero])
        apply walkedS_cons
        · intro l9 wS hz hn hS
          have HD := Lib.hid (pairS_other 7 (by decide) (by decide) hS)
          obtain ⟨k9, -, -⟩ := of_block hS.2.2.2
          clear hS hz hn
          go_wp2
          exact ⟨rfl, rfl, HD.out⟩
        · rfl
        (try simp only [Act.put, List.setIfInBounds_toArray, List.set_cons_succ, List.set_cons_zero])
        apply walkedS_cons
        · intro l9 wS hz hn hS
          have HD := Lib.hid (pairS_other 8 (by decide) (by decide) hS)
          obtain ⟨k9, -, -⟩ := of_block hS.2.2.2
          clear hS hz hn
          go_wp2
          exact ⟨rfl, rfl, HD.out⟩
        · rfl
        (try simp only [Act.put, List.setIfInBounds_toArray, List.set_cons_succ, List.set_cons_zero])
        apply walkedS_cons
        · intro l9 wS hz hn hS
          have HD := Lib.hid (pairS_other 9 (by decide) (by decide) hS)
          obtain ⟨k9, -, -⟩ := of_block hS.2.2.2
          clear hS hz hn
          go_wp2
          exact ⟨rfl, rfl, HD.out⟩
        · rfl
        (try simp only [Act.put, List.setIfInBounds_toArray, List.set_cons_succ, List.set_cons_zero])
        apply walkedS_cons
        · intro l9 wS hz hn hS
          have HD := Lib.hid (pairS_other 10 (by decide) (by decide) hS)
          obtain ⟨k9, -, -⟩ := of_block hS.2.2.2
          clear hS hz hn
          go_wp2
          exact ⟨rfl, rfl, HD.out⟩
        · rfl
        (try simp only [Act.put, List.setIfInBounds_toArray, List.set_cons_succ, List.set_cons_zero])
        apply walkedS_cons
        · intro l9 wS hz hn hS
          obtain ⟨hA9, hB9, hC⟩ := hS
          rw [hn] at hB9
          have hc := HP.out.b wS hB9
          have HQ := Lib.hid (And.intro hz (And.intro hA9 hC))
          clear hA9 hB9 hC hz hn
          go_wp2_with fail
          (with_reducible refine hc.mono ?_)
          rintro e y9 ⟨rfl, hI, hO⟩
          have HD : Hid (PairS 5 11 (TA p gs bs n wy T) (TA p gs bs n wy T') (RA q L n wy N T.flatten) (RA q L n wy N T'.flatten) (PlayC wr2 bs L ob #[Value.int .i64 okd, .int .i64 ost, .int .i64 owy, .int .i64 oid, .int .i64 oas, .int .u64 (ovp : Nat), .int .u64 (oip : Nat), .int .i64 ofr, .bool op0, .bool op1, .bool op2, .bool os0, .bool os1, .bool os2]) (l9.setIfInBounds 11 true) y9) := Lib.hid (pairS_second HQ.out.1 (by decide) (by decide) (both_tlb HQ.out.2.1 hO HSEP.out) hI (playC_b HQ.out.2.2 hO HOB.out.2.2))
          clear hI hO hc
          go_wp2
          exact ⟨rfl, rfl, HD.out⟩
        · rfl
        (try simp only [Act.put, List.setIfInBounds_toArray, List.set_cons_succ, List.set_cons_zero])
        apply walkedS_cons
        · intro l9 wS hz hn hS
          have HD := Lib.hid (pairS_other 12 (by decide) (by decide) hS)
          obtain ⟨k9, -, -⟩ := of_block hS.2.2.2
          clear hS hz hn
          go_wp2
          exact ⟨rfl, rfl, HD.out⟩
        · rfl
        (try simp only [Act.put, List.setIfInBounds_toArray, List.set_cons_succ, List.set_cons_zero])
        apply walkedS_nil
        intro l9 y hz hall hS
        obtain ⟨hA, hB, hC⟩ := hS
        rw [hall 5 (by decide)] at hA
        rw [hall 11 (by decide)] at hB
        have HE : Hid (PlayAt w p gs bs n wy q L N T' y ∧ y.heap[ob]? = some (.cells #[Value.int .i64 okd, .int .i64 ost, .int .i64 owy, .int .i64 oid, .int .i64 oas, .int .u64 (ovp : Nat), .int .u64 (oip : Nat), .int .i64 ofr, .bool op0, .bool op1, .bool op2, .bool os0, .bool os1, .bool os2] 72)) := Lib.hid ⟨⟨hA, hB, HP.out.t, old_only2 HF.out.old hC.1 HLOW.out.1 HLOW.out.2⟩, hC.2⟩
        clear hA hB hC hall hz l9
        show wpList _ _ _ [] _ _
        go_wp2
        refine Met.intro (hJ1 _ _ (by kernel_rfl) ?_)
        exact ⟨_, T', rfl, HE.out.1, HE.out.2⟩
      have hlo : ∃ (ct : Nat) (T' : List (List Pl)), Calls Try.prog 44 #[.pointer (some ⟨p, 0, none⟩), .pointer (some ⟨q, 0, none⟩), .int .i64 K, .agg #[Value.int .i64 oid, .int .i64 oas, .int .u64 (ovp : Nat), .int .u64 (oip : Nat), .int .i64 ofr, .bool op0, .bool op1, .bool op2, .bool os0, .bool os1, .bool os2]] wr2 (RetL wr2 p gs bs n wy q L N T' ct) ∧ Tidy n wy T' := by
        have hk : K = 6 ∨ K = 7 ∨ K = 8 ∨ K = 9 ∨ K = 10 ∨ K = 11 := by have := HK12.out; omega
        rcases hk with hKk | hKk | hKk | hKk | hKk | hKk
        · subst hKk
          exact ⟨_, _, loseAll_both HF.out.tlb HF.out.rt HSEP.out (lose_pair HF.out.tidy (allB) ⟨false, false, false, false, false, ln0⟩ (fun l => rfl) 39 #[.pointer (some ⟨p, 0, none⟩)] (fun x hx => AllLose_calls hx)), tidy_lose HF.out.tidy _⟩
        · subst hKk
          exact ⟨_, _, loseID_both HF.out.tlb HF.out.rt HSEP.out (lose_pair HF.out.tidy (idB oid) ⟨true, false, false, false, false, ⟨oid, oas, ovp, oip, ofr, op0, op1, op2, os0, os1, os2⟩⟩ (fun l => by simp [schB, idB]) 35 #[.pointer (some ⟨p, 0, none⟩), .int .i64 oid] (fun x hx => IDLose_calls hx oid)), tidy_lose HF.out.tidy _⟩
        · subst hKk
          exact ⟨_, _, loseASID_both HF.out.tlb HF.out.rt HSEP.out (lose_pair HF.out.tidy (asidB oid oas) ⟨true, true, false, false, false, ⟨oid, oas, ovp, oip, ofr, op0, op1, op2, os0, os1, os2⟩⟩ (fun l => by simp [schB, asidB]) 40 #[.pointer (some ⟨p, 0, none⟩), .int .i64 oid, .int .i64 oas] (fun x hx => ASIDLose_calls hx oid oas)), tidy_lose HF.out.tidy _⟩
        · subst hKk
          exact ⟨_, _, loseVA_both HF.out.tlb HF.out.rt HSEP.out (lose_pair HF.out.tidy (vaB oid oas ovp) ⟨true, true, true, false, false, ⟨oid, oas, ovp, oip, ofr, op0, op1, op2, os0, os1, os2⟩⟩ (fun l => by simp [schB, vaB, keyB, Bool.and_assoc]) 80 #[.pointer (some ⟨p, 0, none⟩), .int .i64 oid, .int .i64 oas, .int .u64 (ovp : Nat)] (fun x hx => VALose_calls hx oid oas ovp)), tidy_lose HF.out.tidy _⟩
        · subst hKk
          exact ⟨_, _, losePage_both HF.out.tlb HF.out.rt HSEP.out (lose_pair HF.out.tidy (pageB oid oip) ⟨true, false, false, true, false, ⟨oid, oas, ovp, oip, ofr, op0, op1, op2, os0, os1, os2⟩⟩ (fun l => by simp [schB, pageB]) 36 #[.pointer (some ⟨p, 0, none⟩), .int .i64 oid, .int .u64 (oip : Nat)] (fun x hx => PageLose_calls hx oid oip)), tidy_lose HF.out.tidy _⟩
        · subst hKk
          exact ⟨_, _, loseFrame_both HF.out.tlb HF.out.rt HSEP.out (lose_pair HF.out.tidy (frameB ofr) ⟨false, false, false, false, true, ⟨oid, oas, ovp, oip, ofr, op0, op1, op2, os0, os1, os2⟩⟩ (fun l => by simp [schB, frameB]) 37 #[.pointer (some ⟨p, 0, none⟩), .int .i64 ofr] (fun x hx => FrameLose_calls hx ofr)), tidy_lose HF.out.tidy _⟩
      obtain ⟨ct, T', hc, htd⟩ := hlo
      have HTD := Lib.hid htd
      have hKn : (K == 5) = false := by simp [hKe]
      clear hKe htd
      go_wp2_with fail
      (with_reducible refine hc.mono ?_)
      rintro e y1 ⟨rfl, hT1, hR1, hO1⟩
      have hnb1 := keep_only hO1 (fun e => by rcases e with e | e; exact HOB.out.2.1 e; exact HOB.out.2.2 e) HOB.out.1
      have HE : Hid (PlayAt w p gs bs n wy q L N T' y1 ∧ y1.heap[ob]? = some (.cells #[Value.int .i64 okd, .int .i64 ost, .int .i64 owy, .int .i64 oid, .int .i64 oas, .int .u64 (ovp : Nat), .int .u64 (oip : Nat), .int .i64 ofr, .bool op0, .bool op1, .bool op2, .bool os0, .bool os1, .bool os2] 72)) := Lib.hid ⟨⟨hT1, hR1, HTD.out, old_only2 HF.out.old hO1 HLOW.out.1 HLOW.out.2⟩, hnb1⟩
      clear hT1 hR1 hO1 hnb1 hc k1 z1
      go_wp2
      refine Met.intro (hJ1 _ _ (by kernel_rfl) ?_)
      exact ⟨_, T', rfl, HE.out.1, HE.out.2⟩
    case rest3 =>
    intro f3 wx hcut
    dsimp only [mergeA, mergeL, Nat.reduceAdd]
    obtain ⟨z, T', rfl, hF, hnb⟩ := hcut
    clear HF k1 z1 hK
    obtain ⟨fl, fv, hf1, hf2⟩ := find_pair (q := q) (L := L) (N := N) hF.tlb hF.tidy oid oas ovp
    obtain ⟨qid, qas, qvp, qip, qfr, qp0, qp1, qp2, qs0, qs1, qs2⟩ := fl
    have hl := list_pair hF.tlb hF.rt
    have hc : Calls _ _ #[.pointer (some ⟨p, 0, none⟩), .int .i64 oid, .int .i64 oas, .int .u64 (ovp : Nat)] _ (RetB z (.tuple #[.agg #[Value.int .i64 qid, .int .i64 qas, .int .u64 (qvp : Nat), .int .u64 (qip : Nat), .int .i64 qfr, .bool qp0, .bool qp1, .bool qp2, .bool qs0, .bool qs1, .bool qs2], .bool fv])) := hf1 z hF.tlb
    have hf2' : ∀ x, IsRT x q L n wy N T'.flatten → Calls Try.prog 45 #[.pointer (some ⟨q, 0, none⟩), .int .i64 oid, .int .i64 oas, .int .u64 (ovp : Nat)] x (RetB x (.tuple #[.agg #[Value.int .i64 qid, .int .i64 qas, .int .u64 (qvp : Nat), .int .u64 (qip : Nat), .int .i64 qfr, .bool qp0, .bool qp1, .bool qp2, .bool qs0, .bool qs1, .bool qs2], .bool fv])) := hf2
    have HFD := Lib.hid (And.intro hf2' hl)
    have heq := eq_line ⟨qid, qas, qvp, qip, qfr, qp0, qp1, qp2, qs0, qs1, qs2⟩ ⟨qid, qas, qvp, qip, qfr, qp0, qp1, qp2, qs0, qs1, qs2⟩
    rw [(lnB_iff _ _).2 rfl] at heq
    dsimp only [Ln.cells] at heq
    have HEQ := Lib.hid heq
    have HF := Lib.hid hF
    have HNB := Lib.hid hnb
    obtain ⟨k1, -, z1⟩ := of_block hnb
    clear hF hnb hf1 hf2 hf2' hl heq
    go_wp2_with fail
    (with_reducible refine hc.mono ?_)
    rintro e y1 ⟨rfl, hO1⟩
    have hF1 := play_old HF.out hO1
    have hnb1 := keep_old hO1 HNB.out
    have HY := Lib.hid (And.intro hF1 hnb1)
    clear hc hO1 hF1 k1 z1 HF HNB
    obtain ⟨k1, -, z1⟩ := of_block hnb1
    clear hnb1
    go_upto_region 22 with (fail)
    have hO := old_alloc (old_refl y1) (.cells #[Value.int .i64 qid, .int .i64 qas, .int .u64 (qvp : Nat), .int .u64 (qip : Nat), .int .i64 qfr, .bool qp0, .bool qp1, .bool qp2, .bool qs0, .bool qs1, .bool qs2] 64)
    have hra := new_block y1 (.cells #[Value.int .i64 qid, .int .i64 qas, .int .u64 (qvp : Nat), .int .u64 (qip : Nat), .int .i64 qfr, .bool qp0, .bool qp1, .bool qp2, .bool qs0, .bool qs1, .bool qs2] 64)
    generalize y1.alloc (.cells #[Value.int .i64 qid, .int .i64 qas, .int .u64 (qvp : Nat), .int .u64 (qip : Nat), .int .i64 qfr, .bool qp0, .bool qp1, .bool qp2, .bool qs0, .bool qs1, .bool qs2] 64) = y2 at *
    generalize y1.heap.size = ra at *
    have hnb2 := keep_old hO HY.out.2
    have hF2 := play_old HY.out.1 hO
    have hc := HFD.out.1 y2 hF2.rt
    have HY2 := Lib.hid (And.intro hF2 hra)
    clear hO hra hF2 k1 z1 HY
    obtain ⟨k1, -, z1⟩ := of_block hnb2
    clear hnb2
    go_wp2_with fail
    (with_reducible refine hc.mono ?_)
    rintro e y3 ⟨rfl, hO3⟩
    have hF3 := play_old HY2.out.1 hO3
    have hra3 := keep_old hO3 HY2.out.2
    have HY3 := Lib.hid (And.intro hF3 hra3)
    clear hc hO3 hF3 hra3 k1 z1 HY2
    go_upto_region 23 with (fail)
    have hO := old_alloc (old_refl y3) (.cells #[Value.int .i64 qid, .int .i64 qas, .int .u64 (qvp : Nat), .int .u64 (qip : Nat), .int .i64 qfr, .bool qp0, .bool qp1, .bool qp2, .bool qs0, .bool qs1, .bool qs2] 64)
    have hrb := new_block y3 (.cells #[Value.int .i64 qid, .int .i64 qas, .int .u64 (qvp : Nat), .int .u64 (qip : Nat), .int .i64 qfr, .bool qp0, .bool qp1, .bool qp2, .bool qs0, .bool qs1, .bool qs2] 64)
    generalize y3.alloc (.cells #[Value.int .i64 qid, .int .i64 qas, .int .u64 (qvp : Nat), .int .u64 (qip : Nat), .int .i64 qfr, .bool qp0, .bool qp1, .bool qp2, .bool qs0, .bool qs1, .bool qs2] 64) = y4 at *
    generalize y3.heap.size = rb at *
    have hra4 := keep_old hO HY3.out.2
    have hF4 := play_old HY3.out.1 hO
    have hc := HFD.out.2.1 y4 hF4.tlb
    have HY4 := Lib.hid hF4
    obtain ⟨ka, -, za⟩ := of_block hra4
    obtain ⟨kb, -, zb⟩ := of_block hrb
    have heq := HEQ.out
    clear hO hrb hra4 hF4 HY3
    go_wp2_with fail
    (with_reducible refine hc.mono ?_)
    rintro e y5 ⟨v5, rfl, hw5, hO5⟩
    have hF5 := play_old HY4.out hO5
    have hc2 := HFD.out.2.2 y5 hF5.rt
    have HY5 := Lib.hid (And.intro hF5 hw5)
    clear hc hw5 hO5 hF5 ka za kb zb heq HEQ HY4
    go_wp2_with fail
    (with_reducible refine hc2.mono ?_)
    rintro e y6 ⟨v6, rfl, hw6, hO6⟩
    have hl1k : (linesT T').length ≤ 1000 := by have := linesT_512 HY5.out.1.tlb; omega
    have hc3 := lines_calls (own_old HY5.out.2 hO6) hw6 hl1k
    rw [decide_eq_true rfl] at hc3
    have HY6 := Lib.hid (play_old HY5.out.1 hO6)
    clear hc2 hw6 hO6 HY5 hl1k HFD
    go_wp2_with fail
    (with_reducible refine hc3.mono ?_)
    rintro e y7 ⟨rfl, hO7⟩
    have HY7 := Lib.hid (play_old HY6.out hO7)
    clear hc3 hO7 HY6
    go_wp2
    refine Met.intro (hJ2 _ _ (by kernel_rfl) ?_ ?_)
    · exact ⟨i + 1, T', HLT.out.1, HLT.out.2, by show Value.int .i64 ((i : Int) + 1) = _; simp, HY7.out⟩
    · have := HLT.out.2
      rw [H11.out]; show 80 - (intOf (Value.int .i64 ((i : Int) + 1))).toNat < 80 - (intOf (Value.int .i64 (i : Int))).toNat
      simp [intOf]; omega
end
end Go.Proofs.Ytfiofjalpaeohaa

