/- The statement WalkGoes: its walk. -/
import Derived.Test.YtlbehhbicmmdoaaWalkGoesN
import Derived.Test.YtlbehhbicmmdoaaWalkSame
import Derived.Test.YtlbehhbicmmdoaaWalkTold
import Derived.Test.YtlbehhbicmmdoaaFrame
import Derived.Deep.CutBlock
namespace Go.Proofs.Ytlbehhbicmmdoaa
set_option linter.unusedVariables false
set_option linter.unusedSimpArgs false
open Go.RowKit

theorem goes_reader (B nb wb sb : Nat) (a1 : Option Addr) (c1 : Nat) (a2 : Option Addr) (c2 : Nat) (A W : List Nat) (stop : Bool) (hn : nb < B) (hw : wb < B) (hs : sb < B) (hW : ∀ w ∈ W, w < 18446744073709551616) : Reader 16 #[.pointer (some ⟨nb, 0, none⟩), .pointer (some ⟨wb, 0, none⟩), .pointer (some ⟨sb, 0, none⟩)] (fun b => b = nb) (GoesS B nb wb sb a1 c1 a2 c2 A W stop) (readR A W) (fun a => (readO A W a).isSome || !stop) B :=
  { own := fun b h => by omega
    fn := fn_goes
    word := readR_lt A W hW
    keep := fun k x y h ho => by
      obtain ⟨h1, h2, h3, h4, h5, h6, h7, h8⟩ := h
      exact ⟨keep_only ho (fun e => by omega) h1, keep_only ho (fun e => by omega) h2, keep_only ho (fun e => by omega) h3, wordsAt_only h4 ho, h5, h6, h7, h8⟩
    call := fun k a x hk ha hS => goes1_calls B nb wb sb a1 c1 a2 c2 A W stop k a hk x hS }
theorem goes_no {raw : Nat → Nat} {ok : Nat → Bool} {st : Int} {addr m table : Nat} {L0 : List St} {R : List St × Int} (hway : OnWay raw ok st addr (4 - m) m table L0 R) (hm : m = L0.length) (hm3 : m ≤ 3) (hok : ok (atN table addr L0.length) = false) : R = (L0, -1) ∧ m + 1 = asksN R := by
  subst hm
  have h := onWay_no (n := 3 - L0.length) (lv := L0.length) (by rwa [show 3 - L0.length + 1 = 4 - L0.length by omega]) hok
  exact ⟨h, by rw [h]; unfold asksN; rw [if_pos rfl]⟩
theorem giveK_ne (E : Int) (d : D6) : giveK E d 4 ≠ -1 := by
  unfold giveK
  split
  · decide
  · split
    · decide
    · split
      · decide
      · split <;> decide
theorem goes_yes {raw : Nat → Nat} {ok : Nat → Bool} {st : Int} {addr m table X : Nat} {L0 : List St} {R : List St × Int} (hway : OnWay raw ok st addr (4 - m) m table L0 R) (hm : m = L0.length) (hm3 : m ≤ 3) (T : Nat) (hT : atN table addr L0.length = T) (hX : raw T = X) (hok : ok T = true) :
    (giveO (decE st L0.length X) (decD st L0.length X) = false → giveK (decE st L0.length X) (decD st L0.length X) 4 = 4 ∧ m + 1 = (L0 ++ ([⟨L0.length, T, X, decD st L0.length X⟩] : List St)).length ∧ m + 1 ≤ 3 ∧ OnWay raw ok st addr (4 - (m + 1)) (m + 1) (giveT (decE st L0.length X) (decD st L0.length X) table) (L0 ++ [⟨L0.length, T, X, decD st L0.length X⟩]) R) ∧
    (giveO (decE st L0.length X) (decD st L0.length X) = true → R = (L0 ++ [⟨L0.length, T, X, decD st L0.length X⟩], giveK (decE st L0.length X) (decD st L0.length X) 4) ∧ m + 1 = asksN R) := by
  subst hm hT hX
  have h := onWay_yes (n := 3 - L0.length) (lv := L0.length) (by rwa [show 3 - L0.length + 1 = 4 - L0.length by omega]) hok
  rcases h with ⟨a, b⟩ | ⟨a, b, c, d⟩
  · refine ⟨fun e => (by rw [a] at e; cases e), fun _ => ⟨b, ?_⟩⟩
    rw [b]; unfold asksN
    rw [if_neg (giveK_ne _ _)]
    simp
  · refine ⟨fun _ => ⟨c, by simp, ?_, by rwa [show 4 - (L0.length + 1) = 3 - L0.length by omega]⟩, fun e => (by rw [a] at e; cases e)⟩
    rcases Nat.lt_or_ge L0.length 3 with h3 | h3
    · omega
    · have e : L0.length = 3 := by omega
      rw [e] at d
      exact absurd d (decD_last st _)
set_option maxHeartbeats 16000000 in
set_option maxRecDepth 100000 in
theorem walkGoes_walk (st : Int) (hst0 : (Lit.int .i64 st).wf = true) (ri : Int) (hr0 : (Lit.int .u64 ri).wf = true) (ai : Int) (ha0 : (Lit.int .u64 ai).wf = true) (ad : Option Addr) (ds : List D6) (cap : Nat) (ad2 : Option Addr) (rs : List Nat) (cap2 : Nat) (levels : Int) (_ : (Lit.int .i64 levels).wf = true) (stop : Bool) (w : World) (hN : ds.length ≤ maxLen) (hD : Descs w ad ds) (hRS : Words w ad2 cap2 rs) :
    Calls Try.prog 3 #[.int .i64 st, .int .u64 ri, .int .u64 ai, .slice ad ds.length cap, .slice ad2 rs.length cap2, .int .i64 levels, .bool stop] w (RetB w (.bool true)) := by
  obtain ⟨root, rfl, hroot⟩ := wf_u64 hr0
  obtain ⟨addr, rfl, haddr⟩ := wf_u64 ha0
  obtain ⟨S0, hm1, hS0⟩ : ∃ S0 : Int, bits .and .i64 st 1 = S0 ∧ (S0 = 0 ∨ S0 = 1) := ⟨st % 2, i64_mask1 st, by omega⟩
  have hb1 : 0 ≤ S0 := by omega
  have hb2 : S0 ≤ 1 := by omega
  have hst : 1 + S0 = 1 ∨ 1 + S0 = 2 := by omega
  have hO0 := old_alloc (old_refl w) (.cells #[.bool stop] 4)
  have hc := tables_calls (1 + S0) hst root addr ad ad2 ds cap rs cap2 levels (w.alloc (.cells #[.bool stop] 4)) hN (descs_old hD hO0) (words_old hRS hO0)
  have hsb := new_block w (.cells #[.bool stop] 4)
  have HU := Lib.hid (And.intro hroot (And.intro haddr (And.intro hst hO0)))
  have HSB := Lib.hid hsb
  clear hr0 ha0 hst0 hS0 hN hD hRS hroot haddr hst hO0 hsb
  go_enter Try.func3, Try.ntmps3
  go_wp2_with fail
  (with_reducible refine hc.mono ?_)
  rintro e x1 ⟨v1, v2, A, W, rfl, hA, hW, okA, okW, hO1⟩
  obtain ⟨a1, c1, rfl, hw1, hb1'⟩ := words_own hA okA.2
  obtain ⟨a2, c2, rfl, hw2, hb2'⟩ := words_own hW okW.2
  have HW := Lib.hid (And.intro hw1 (And.intro hb1' (And.intro hw2 (And.intro hb2' (And.intro okW.2 (And.intro hO1 (keep_old hO1 HSB.out)))))))
  clear hc hA hW okA okW hO1 hw1 hb1' hw2 hb2' HSB
  go_upto_region 4 with (fail)
  have hO2 := old_alloc (old_alloc (old_refl x1) (.cells #[.slice a1 A.length c1, .slice a2 W.length c2] 26)) (.cells #[.int .i64 st, .int .i64 (1 + S0)] 3)
  have hwb := keep_alloc (.cells #[.int .i64 st, .int .i64 (1 + S0)] 3) (new_block x1 (.cells #[.slice a1 A.length c1, .slice a2 W.length c2] 26))
  have htb := new_block (x1.alloc (.cells #[.slice a1 A.length c1, .slice a2 W.length c2] 26)) (.cells #[.int .i64 st, .int .i64 (1 + S0)] 3)
  rw [World.size_alloc] at htb
  generalize (x1.alloc (.cells #[.slice a1 A.length c1, .slice a2 W.length c2] 26)).alloc (.cells #[.int .i64 st, .int .i64 (1 + S0)] 3) = X0 at *
  have hwords : (∀ bb off, a1 = some ⟨bb, off, none⟩ → bb < x1.heap.size) ∧ (∀ bb off, a2 = some ⟨bb, off, none⟩ → bb < x1.heap.size) ∧ Words X0 a1 c1 A ∧ Words X0 a2 c2 W := ⟨HW.out.2.1, HW.out.2.2.2.1, words_old HW.out.1 hO2, words_old HW.out.2.2.1 hO2⟩
  have hsb := keep_old hO2 HW.out.2.2.2.2.2.2
  have hOw := old_then HU.out.2.2.2 (old_then HW.out.2.2.2.2.2.1 hO2)
  have hWb := HW.out.2.2.2.2.1
  generalize x1.heap.size = wb at *
  generalize w.heap.size = sb at *
  have HX := Lib.hid (And.intro hwb (And.intro htb (And.intro hsb (And.intro hwords (And.intro hOw hWb)))))
  clear hO2 hwb htb hsb hwords hOw hWb HW
  go_wp2
  refine wp_loopF [false, false, false, false, false, false, false, false, false, false, false, false, false, false, true, false, false, false, true, true, true, true, true, true, true, true, false, false, false, false, false, false, false, false, false, false, false, false, false, false, false, true, true, true, true, true, true, true, true, true, true, true, true, true, true, true, true, true, true, true, true, true, true, true, true, true, true, true, true, true, true, true, true, true, true, true, true, true, true, true, true, true, true, true, true, true, true, true, true, true, true, true, true, true, true, true, true, true, true, true, true, true] (fun f x => ∃ i : Nat, i ≤ 2 ∧ f 18 = .int .i64 (i : Nat) ∧ Old X0 x) (fun f => 2 - (intOf (f 18)).toNat) ?start1 ?round1
  case start1 => exact ⟨0, by omega, rfl, (by first | exact old_refl _ | exact old_drew (old_refl _))⟩
  case round1 =>
    intro f1 wr hrel J1 K1 hJ1 hM1
    dsimp only [mergeA, mergeL, Nat.reduceAdd]
    obtain ⟨i, hi, h18, hO⟩ := hrel
    rw [h18]
    have H18 := Lib.hid h18
    have HO := Lib.hid hO
    clear h18 hO
    by_cases hi2 : i = 2
    · subst hi2
      have hc := fun y => walk_nil (1 + S0) HU.out.2.2.1 root addr y
      have HC := Lib.hid hc
      clear hc hi
      go_wp2_with fail
      (with_reducible refine (HC.out _).mono ?_)
      rintro e y1 ⟨rfl, hY1⟩
      have HY1 := Lib.hid hY1
      have hc := told12_calls y1
      clear hY1
      go_wp2_with fail
      (with_reducible refine hc.mono ?_)
      rintro e y2 ⟨rfl, hY2⟩
      have HY2 := Lib.hid hY2
      clear hc hY2
      go_wp2
      go_ret
      exact ⟨rfl, old_then HX.out.2.2.2.2.1 (old_then HO.out (old_then HY1.out HY2.out))⟩
    · have e1 : (i : Int) < 2 := by omega
      obtain ⟨ti, hti⟩ : ∃ ti : Int, (#[Value.int .i64 st, .int .i64 (1 + S0)] : Array Value)[i]? = some (.int .i64 ti) := by
        rcases (show i = 0 ∨ i = 1 by omega) with rfl | rfl
        · exact ⟨st, rfl⟩
        · exact ⟨1 + S0, rfl⟩
      have hct : ∀ y, Old wr y → y.cell? ⟨wb + 1, i, none⟩ = some (.int .i64 ti) := fun y hy => by rw [cell_of (keep_old (old_then HO.out hy) HX.out.2.1)]; exact hti
      have HCT := Lib.hid hct
      have HI := Lib.hid (show i < 2 by omega)
      clear hi hi2 hti hct
      go_upto_region 8 with (fail)
      have hO1 := old_alloc (old_refl wr) (.cells #[.int .i64 0] 3)
      have hnb := new_block wr (.cells #[.int .i64 0] 3)
      have hsz : (wr.alloc (.cells #[.int .i64 0] 3)).heap.size = wr.heap.size + 1 := World.size_alloc _ _
      have hct1 := HCT.out _ hO1
      generalize wr.alloc (.cells #[.int .i64 0] 3) = X1 at *
      have hwbl : wb < wr.heap.size ∧ sb < wr.heap.size ∧ wb + 1 < wr.heap.size ∧ X0.heap.size ≤ wr.heap.size := ⟨Nat.lt_of_lt_of_le (lt_of_block HX.out.1) HO.out.size, Nat.lt_of_lt_of_le (lt_of_block HX.out.2.2.1) HO.out.size, Nat.lt_of_lt_of_le (lt_of_block HX.out.2.1) HO.out.size, HO.out.size⟩
      generalize wr.heap.size = nb at *
      have hG : GoesS X1.heap.size nb wb sb a1 c1 a2 c2 A W stop 0 X1 := by
        obtain ⟨g1, g2, g3, ⟨b1, b2, w1, w2⟩, _, _⟩ := HX.out
        have hO01 := old_then HO.out hO1
        exact ⟨hnb, keep_old hO01 g1, keep_old hO01 g3, ⟨words_old w1 hO01, words_old w2 hO01, fun bb off e => by have := b1 bb off e; omega, fun bb off e => by have := b2 bb off e; omega⟩, fun bb off e => by have := b1 bb off e; omega, fun bb off e => by have := b2 bb off e; omega, by omega, by omega⟩
      obtain ⟨Rr, hwalk, hR4, hRv, hRn⟩ : ∃ Rr : List St × Int, (Calls Try.prog 15 #[.int .i64 ti, .int .u64 (root : Nat), .int .u64 (addr : Nat), .func (.func 16) #[] #[.pointer (some ⟨nb, 0, none⟩), .pointer (some ⟨wb, 0, none⟩), .pointer (some ⟨sb, 0, none⟩)]] X1 (RetWalk X1 (fun b => b = nb) (GoesS X1.heap.size nb wb sb a1 c1 a2 c2 A W stop) Rr)) ∧ Rr.1.length ≤ 4 ∧
          ((ti = 1 ∨ ti = 2) → Rr = walkN (readR A W) (fun a => (readO A W a).isSome || !stop) ti addr 4 0 root) ∧ (¬ (ti = 1 ∨ ti = 2) → Rr = ([], 4)) := by
        by_cases ht : ti = 1 ∨ ti = 2
        · exact ⟨_, walk_calls ti ht root addr HU.out.1 HU.out.2.1 16 _ (fun b => b = nb) (GoesS X1.heap.size nb wb sb a1 c1 a2 c2 A W stop) (readR A W) (fun a => (readO A W a).isSome || !stop) X1 (goes_reader X1.heap.size nb wb sb a1 c1 a2 c2 A W stop (by omega) (by omega) (by omega) HX.out.2.2.2.2.2) hG, (walk_ok _ _ ti addr 4 0 root rfl (by decide)).len, fun _ => rfl, fun h => absurd ht h⟩
        · refine ⟨([], 4), (walk_bad ti ht root addr _ X1).mono ?_, by simp, fun h => absurd h ht, fun _ => rfl⟩
          rintro e y ⟨rfl, hY⟩
          exact ⟨_, rfl, own_nil, goesS_old hG hY, (Only.of_below hY).mono fun b _ f => f.elim⟩
      have HR := Lib.hid (And.intro hR4 (And.intro hRv hRn))
      have HN1 := Lib.hid (And.intro hO1 (And.intro hsz hwbl))
      clear hO1 hnb hsz hwbl hG hR4 hRv hRn
      go_wp2_with fail
      refine hwalk.mono ?_
      rintro e x2 ⟨va, rfl, howna, hG2, hO2⟩
      have HA2 := Lib.hid (And.intro howna (And.intro hG2 hO2))
      have hct2 : x2.cell? ⟨wb + 1, i, none⟩ = some (.int .i64 ti) := by
        rw [hO2.cell (wb + 1) i (Nat.lt_of_lt_of_le (lt_of_block HX.out.2.1) (Nat.le_trans HO.out.size HN1.out.1.size)) (by have := HN1.out.2.2.2.2; omega)]
        exact hct1
      have hbg := begin_calls ti root addr x2
      clear hwalk howna hG2 hO2 hct1
      go_wp2_with fail
      (with_reducible refine hbg.mono ?_)
      rintro e x3 ⟨rfl, hI3, hO3⟩
      generalize hpbe : x2.heap.size = pb at *
      have HPB := Lib.hid hpbe
      clear hpbe
      have HI3 := Lib.hid (And.intro hI3 hO3)
      clear hbg hI3 hO3 hct2
      go_wp2
      refine wp_loopF [false, false, false, false, false, false, false, false, false, false, false, false, false, false, false, false, false, false, false, false, true, false, false, false, true, true, false, false, false, false, false, false, false, false, false, false, false, false, false, false, false, false, false, false, false, false, false, false, false, false, false, false, false, false, false, false, false, false, false, false, false, false, false, true, true, true, true, true, true, true, true, true, true, true, true, true, true, true, true, true, true, true] (fun f y => ∃ (m table : Nat) (v : Value) (L0 : List St) (kind : Int) (over : Bool), f 20 = .int .i64 (m : Nat) ∧ m ≤ 4 ∧ IsW y (pb + 1) pb ti table addr v L0 kind over ∧ Only (fun b => b = pb ∨ pb + 1 ≤ b) x3 y ∧
        (over = false → (ti = 1 ∨ ti = 2) ∧ kind = 4 ∧ m = L0.length ∧ m ≤ 3 ∧ OnWay (readR A W) (fun a => (readO A W a).isSome || !stop) ti addr (4 - m) m table L0 Rr) ∧ (over = true → Rr = (L0, kind) ∧ m = asksN Rr)) (fun f => 5 - (intOf (f 20)).toNat) ?start2 ?round2
      case start2 =>
        refine ⟨0, root, _, [], 4, _, rfl, by omega, HI3.out.1, Only.refl _ _, fun h => ?_, fun h => ?_⟩
        · have ht : ti = 1 ∨ ti = 2 := by
            rcases Decidable.em (ti = 1 ∨ ti = 2) with h' | h'
            · exact h'
            · rw [decide_eq_false h'] at h; cases h
          exact ⟨ht, rfl, rfl, by omega, by rw [HR.out.2.1 ht]; exact onWay_start root⟩
        · have ht : ¬ (ti = 1 ∨ ti = 2) := fun h' => by rw [decide_eq_true h'] at h; cases h
          rw [HR.out.2.2 ht]
          exact ⟨rfl, rfl⟩
      case round2 =>
        intro f2 wq hrel J2 K2 hJ2 hM2
        dsimp only [mergeA, mergeL, Nat.reduceAdd]
        obtain ⟨m, table, v, L0, kind, over, h20, hm4, hI, hOn, hf, ht⟩ := hrel
        rw [h20]
        have H20 := Lib.hid h20
        obtain ⟨k1, q1, z1⟩ := of_block hI.hp
        have HI2 := Lib.hid (And.intro hI (And.intro hOn (And.intro hf ht)))
        have m4 : (m : Int) ≤ 4 := by omega
        clear h20 hm4 hI hOn hf ht
        cases over
        case true =>
          obtain ⟨hI, hOn, -, ht⟩ := HI2.out
          obtain ⟨hRe, hme⟩ := ht rfl
          clear HI2
          subst hRe
          have hnn : L0.length ≤ 4 := HR.out.1
          have howna : x2.ownsRow X1.heap.size 52 9 va L0.length (stCells L0) := HA2.out.1
          have hpb := HPB.out
          have hrow := own_keep howna (((Only.of_below HI3.out.2).mono (G := fun b => b = pb ∨ pb + 1 ≤ b) (fun b _ f => f.elim)).trans hOn) (fun b hb e => by have := (howna.lt b hb).2; omega)
          have hsame := fun y (hy : Old wq y) => same_calls (own_old hrow hy) (own_old hI.own hy) rfl hnn
          have hn0 : x2.heap[nb]? = some (.cells #[.int .i64 (m : Nat)] 3) := by
            have := HA2.out.2.1.1
            rw [← hme] at this
            exact this
          have hnbq := keep_only hOn (fun e => by have := lt_of_block hn0; omega) (keep_old HI3.out.2 hn0)
          have HQ := Lib.hid (And.intro hnbq hI.hp)
          have HSm := Lib.hid hsame
          have HON := Lib.hid hOn
          clear hI hOn ht hme hnn howna hpb hrow hsame hn0 hnbq
          go_wp2_with fail
          (with_reducible refine (HSm.out _ (by first | exact old_refl _ | exact old_drew (old_refl _))).mono ?_)
          rintro e y1 ⟨rfl, hY1⟩
          have HY1 := Lib.hid hY1
          obtain ⟨n1, n2, n3⟩ := of_block (keep_old hY1 HQ.out.1)
          obtain ⟨p1, p2, p3⟩ := of_block (keep_old hY1 HQ.out.2)
          clear hY1 k1 q1 z1
          go_wp2
          refine Met.intro (hJ1 _ _ (by kernel_rfl) ?_ ?_)
          · refine ⟨i + 1, HI.out, by show Value.int .i64 ((i : Int) + 1) = _; simp, ?_⟩
            have hpb := HPB.out
            have h1 := HN1.out
            have hs0 := HO.out.size
            have hO12 := HA2.out.2.2
            have h2 := hO12.size
            have hA : Only (fun b => X0.heap.size ≤ b) X0 x2 := ((Only.of_below (old_then HO.out h1.1)).mono (fun b _ f => f.elim)).trans (hO12.mono fun b _ e => by omega)
            have hB : Only (fun b => X0.heap.size ≤ b) X0 x3 := hA.trans ((Only.of_below HI3.out.2).mono fun b _ f => f.elim)
            have h3 := h1.1.size
            have hC := hB.trans (HON.out.mono (G := fun b => X0.heap.size ≤ b) fun b _ e => by omega)
            exact old_then (Only.below hC (Nat.le_refl _)) (by first | exact HY1.out | exact old_then HY1.out (old_drew (old_refl _)))
          · rw [H18.out]
            show 2 - (intOf (Value.int .i64 ((i : Int) + 1))).toNat < 2 - (intOf (Value.int .i64 (i : Int))).toNat
            have := HI.out
            simp [intOf]
            omega
        case false =>
          obtain ⟨hI, hOn, hf, -⟩ := HI2.out
          obtain ⟨hti, hk4, hmL, hm3, hway⟩ := hf rfl
          subst hk4
          have hC : Only (fun b => X0.heap.size ≤ b) X0 wq := by
            have hpb := HPB.out
            have h1 := HN1.out
            have hO12 := HA2.out.2.2
            have h2 := hO12.size
            have h3 := h1.1.size
            have hA : Only (fun b => X0.heap.size ≤ b) X0 x2 := ((Only.of_below (old_then HO.out h1.1)).mono (fun b _ f => f.elim)).trans (hO12.mono fun b _ e => by omega)
            have hB : Only (fun b => X0.heap.size ≤ b) X0 x3 := hA.trans ((Only.of_below HI3.out.2).mono fun b _ f => f.elim)
            exact hB.trans (hOn.mono fun b _ e => by omega)
          have hX := HX.out
          have l1 := lt_of_block hX.1
          have l2 := lt_of_block hX.2.2.1
          have hWA : WordsAt wq X0.heap.size a1 c1 a2 c2 A W := wordsAt_only ⟨hX.2.2.2.1.2.2.1, hX.2.2.2.1.2.2.2, fun bb off e => by have := hX.2.2.2.1.1 bb off e; omega, fun bb off e => by have := hX.2.2.2.1.2.1 bb off e; omega⟩ hC
          have HB := Lib.hid (And.intro (keep_only hC (fun e => by omega) hX.1) (And.intro (keep_only hC (fun e => by omega) hX.2.2.1) hI.hp))
          obtain ⟨T, hT⟩ : ∃ T, atN table addr L0.length = T := ⟨_, rfl⟩
          have hat : ∀ y, Old wq y → Calls Try.prog 19 #[.pointer (some ⟨pb, 0, none⟩)] y (RetB y (.int .u64 (T : Nat))) := fun y hy => by
            have := atW_calls (isW_old hI hy) HU.out.2.1 (by omega)
            rw [hT] at this
            exact this
          have hrd := fun y (hy : Old wq y) => readW_calls X0.heap.size a1 c1 a2 c2 A W T stop y (wordsAt_old hWA hy)
          obtain ⟨ok, hok⟩ : ∃ ok, ((readO A W T).isSome || !stop) = ok := ⟨_, rfl⟩
          rw [hok] at hrd
          obtain ⟨X, hX9⟩ : ∃ X, readR A W T = X := ⟨_, rfl⟩
          rw [hX9] at hrd
          have hXlt : X < 18446744073709551616 := by rw [← hX9]; exact readR_lt A W HX.out.2.2.2.2.2 T
          have HAT := Lib.hid hat
          have HRD := Lib.hid hrd
          have HF := Lib.hid (And.intro hti (And.intro hmL (And.intro hm3 (And.intro hway (And.intro hT (And.intro hok (And.intro hX9 hXlt)))))))
          have HI9 := Lib.hid (And.intro hI hOn)
          clear HI2
          clear hI hOn hf hti hmL hm3 hway hC hX l1 l2 hWA hT hat hrd hok hX9 hXlt
          go_upto_region 12 with (fail)
          clear k1 q1 z1
          refine wp_region_walked (S := Old wq) (by kernel_rfl) (by kernel_rfl) (old_drew (old_refl _)) ?_
          apply walked_cons
          · intro wS hS
            obtain ⟨k1, q1, z1⟩ := of_block (keep_old hS HB.out.1)
            refine wpList_load_at rfl 26 _ rfl wb 0 rfl [.slice a1 A.length c1, .slice a2 W.length c2] _ (fun c v h => by rw [Nat.zero_add, k1 c]; rw [List.getElem?_toArray]; exact h) Try.underlying26 rfl (by kernel_rfl) ?_
            exact ⟨rfl, rfl, hS⟩
          · rfl
          (try simp only [Act.put, List.setIfInBounds_toArray, List.set_cons_succ, List.set_cons_zero])
          apply walked_cons
          · intro wS hS
            have HS := Lib.hid hS
            clear hS
            go_wp2
            exact ⟨rfl, rfl, HS.out⟩
          · rfl
          (try simp only [Act.put, List.setIfInBounds_toArray, List.set_cons_succ, List.set_cons_zero])
          apply walked_cons
          · intro wS hS
            have HS := Lib.hid hS
            have hc := HAT.out wS HS.out
            clear hS
            go_wp2_with fail
            (with_reducible refine hc.mono ?_)
            rintro e y9 ⟨rfl, hY⟩
            have HY := Lib.hid hY
            clear hc hY
            go_wp2
            exact ⟨rfl, rfl, old_then HS.out HY.out⟩
          · rfl
          (try simp only [Act.put, List.setIfInBounds_toArray, List.set_cons_succ, List.set_cons_zero])
          apply walked_cons
          · intro wS hS
            obtain ⟨k1, q1, z1⟩ := of_block (keep_old hS HB.out.2.1)
            have HS := Lib.hid hS
            clear hS
            go_wp2
            exact ⟨rfl, rfl, HS.out⟩
          · rfl
          (try simp only [Act.put, List.setIfInBounds_toArray, List.set_cons_succ, List.set_cons_zero])
          apply walked_cons
          · intro wS hS
            have HS := Lib.hid hS
            have hc := HRD.out wS HS.out
            clear hS
            go_wp2_with fail
            (with_reducible refine hc.mono ?_)
            rintro e y9 ⟨rfl, hY⟩
            have HY := Lib.hid hY
            clear hc hY
            go_wp2
            exact ⟨rfl, rfl, old_then HS.out HY.out⟩
          · rfl
          (try simp only [Act.put, List.setIfInBounds_toArray, List.set_cons_succ, List.set_cons_zero])
          apply walked_cons
          · intro wS hS
            have HS := Lib.hid hS
            clear hS
            go_wp2
            exact ⟨rfl, rfl, HS.out⟩
          · rfl
          (try simp only [Act.put, List.setIfInBounds_toArray, List.set_cons_succ, List.set_cons_zero])
          apply walked_cons
          · intro wS hS
            have HS := Lib.hid hS
            clear hS
            go_wp2
            exact ⟨rfl, rfl, HS.out⟩
          · rfl
          (try simp only [Act.put, List.setIfInBounds_toArray, List.set_cons_succ, List.set_cons_zero])
          apply walked_cons
          · intro wS hS
            have HS := Lib.hid hS
            clear hS
            go_wp2
            exact ⟨rfl, rfl, HS.out⟩
          · rfl
          (try simp only [Act.put, List.setIfInBounds_toArray, List.set_cons_succ, List.set_cons_zero])
          apply walked_cons
          · intro wS hS
            have HS := Lib.hid hS
            clear hS
            go_wp2
            exact ⟨rfl, rfl, HS.out⟩
          · rfl
          (try simp only [Act.put, List.setIfInBounds_toArray, List.set_cons_succ, List.set_cons_zero])
          apply walked_cons
          · intro wS hS
            have HS := Lib.hid hS
            clear hS
            go_wp2
            exact ⟨rfl, rfl, HS.out⟩
          · rfl
          (try simp only [Act.put, List.setIfInBounds_toArray, List.set_cons_succ, List.set_cons_zero])
          apply walked_nil
          intro wS hS
          have HS := Lib.hid hS
          clear hS
          obtain ⟨hti, hmL, hm3, hway, hT, hok, hX9, hXlt⟩ := HF.out
          have HI3' := Lib.hid (And.intro (isW_old HI9.out.1 HS.out) (HI9.out.2.trans ((Only.of_below HS.out).mono fun b _ f => f.elim)))
          have hl3 : L0.length ≤ 3 := by omega
          cases ok
          case false =>
            have hg := give_no HI3'.out.1 X
            have hend := goes_no hway hmL hm3 (by rw [hT]; exact hok)
            have HE := Lib.hid hend
            have HM := Lib.hid hm3
            clear hti hmL hm3 hway hT hok hX9 hXlt hl3 hend
            go_wp2_with fail
            (with_reducible refine hg.mono ?_)
            rintro e y1 ⟨rfl, hI1, hO1⟩
            have HY := Lib.hid (And.intro hI1 hO1)
            clear hI1 hO1 hg
            go_wp2
            refine Met.intro (hJ2 _ _ (by kernel_rfl) ?_ ?_)
            · exact ⟨m + 1, table, v, L0, -1, true, by show Value.int .i64 ((m : Int) + 1) = _; simp, by have := HM.out; omega, HY.out.1, HI3'.out.2.trans (HY.out.2.mono fun b _ e => .inl e), fun h => (by cases h), fun _ => HE.out⟩
            · rw [H20.out]
              show 5 - (intOf (Value.int .i64 ((m : Int) + 1))).toNat < 5 - (intOf (Value.int .i64 (m : Int))).toNat
              have := HM.out
              simp [intOf]
              omega
          case true =>
            have hg := give_yes HI3'.out.1 HU.out.2.1 hl3 X hXlt
            have hend := goes_yes hway hmL hm3 T hT hX9 hok
            rw [hT] at hg
            have HE := Lib.hid hend
            have HM := Lib.hid hm3
            have HTI := Lib.hid hti
            clear hti hmL hm3 hway hT hok hX9 hXlt hl3 hend
            go_wp2_with fail
            (with_reducible refine hg.mono ?_)
            rintro e y1 ⟨rfl, ⟨v', hI1⟩, hO1⟩
            have HY := Lib.hid (And.intro hI1 hO1)
            clear hI1 hO1 hg
            go_wp2
            refine Met.intro (hJ2 _ _ (by kernel_rfl) ?_ ?_)
            · exact ⟨m + 1, _, v', _, _, _, by show Value.int .i64 ((m : Int) + 1) = _; simp, by have := HM.out; omega, HY.out.1, HI3'.out.2.trans HY.out.2, fun h => ⟨HTI.out, HE.out.1 h⟩, fun h => HE.out.2 h⟩
            · rw [H20.out]
              show 5 - (intOf (Value.int .i64 ((m : Int) + 1))).toNat < 5 - (intOf (Value.int .i64 (m : Int))).toNat
              have := HM.out
              simp [intOf]
              omega
end Go.Proofs.Ytlbehhbicmmdoaa

