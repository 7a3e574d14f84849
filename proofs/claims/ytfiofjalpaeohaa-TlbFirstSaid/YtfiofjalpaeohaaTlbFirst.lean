/- The statement TlbFirst: its walk. -/
import Derived.Test.YtfiofjalpaeohaaTlbFree
import Derived.Test.YtfiofjalpaeohaaIntsArg
import Derived.Test.YtfiofjalpaeohaaTlbUse
import Derived.Deep.CutBlock
namespace Go.Proofs.Ytfiofjalpaeohaa
set_option linter.unusedVariables false
set_option linter.unusedSimpArgs false
open Go.RowKit

theorem tab0 (n wy : Nat) (h : 1 ≤ n) : List.replicate n (List.replicate wy pl0) = tabF n wy [] := by
  obtain ⟨k, rfl⟩ : ∃ k, n = k + 1 := ⟨n - 1, by omega⟩
  unfold tabF rowF
  rw [List.replicate_succ]
  rfl
/-- What holds ahead of step i. -/
structure FirstAt (w : World) (B p gs : Nat) (bs : List Nat) (n wy i : Nat) (L : List Ln) (v : Value) (x : World) : Prop where
  tlb : IsTlb x p gs bs n wy (tabF n wy L)
  own : OwnLns x B v L
  len : L.length ≤ wy
  ks : ∀ a ∈ L, ∃ j, j < i ∧ a = lnF n j
  old : Old w x
  bB : ∀ b ∈ bs, w.heap.size ≤ b ∧ b < B
  wB : w.heap.size ≤ B
  pB : p < B ∧ gs < B
  xB : B ≤ x.heap.size
set_option maxHeartbeats 8000000 in
set_option maxRecDepth 100000 in
theorem tlbFirst_walk (s : Int) (hs : (Lit.int .i64 s).wf = true) (y : Int) (hy : (Lit.int .i64 y).wf = true) (ad : Option Addr) (l : List Int) (c : Nat) (w : World) (hI : Ints w ad c l) :
    Calls Try.prog 4 #[.int .i64 s, .int .i64 y, .slice ad l.length c] w (RetB w (.bool true)) := by
  have hl63 : l.length ≤ 9223372036854775807 := Nat.le_trans hI.1 hI.2.1
  have HI := Lib.hid hI
  obtain ⟨K, hK⟩ : ∃ K, s % 8 = K := ⟨_, rfl⟩
  have hm1 : bits .and .i64 s 7 = K := by rw [i64_mask7]; exact hK
  obtain ⟨Y, hY⟩ : ∃ Y : Nat, y % 8 = Y := ⟨(y % 8).toNat, by omega⟩
  have hm2 : bits .and .i64 y 7 = Y := by rw [i64_mask7]; exact hY
  have HM := Lib.hid (And.intro hm1 hm2)
  have hK8 : 0 ≤ K ∧ K < 8 := by omega
  have hY8 : Y < 8 := by omega
  have HK := Lib.hid (And.intro hK8 hY8)
  clear hs hy hI hK hY hm1 hm2 hK8 hY8
  go_enter Try.func4, Try.ntmps4
  go_upto_region 1 with (fail)
  go_cut [7, 8] (fun s7 s8 wx => ∃ n wy : Nat, setsB n ∧ 1 ≤ wy ∧ wy ≤ 8 ∧ s7 = .int .i64 (n : Nat) ∧ s8 = .int .i64 (wy : Nat) ∧ w = wx)
  case first =>
    go_wp2
    go_meet
    case rel =>
      obtain ⟨hm1, hm2⟩ := HM.out
      obtain ⟨⟨k0, k8⟩, y8⟩ := HK.out
      rw [hm1, hm2]
      have hw : wrap64 (1 + (Y : Int)) = ((1 + Y : Nat) : Int) := by rw [IntWalk.wrap64_in _ (by omega)]; omega
      rw [hw]
      have hk : K = 0 ∨ K = 1 ∨ K = 2 ∨ K = 3 ∨ K = 4 ∨ K = 5 ∨ K = 6 ∨ K = 7 := by omega
      rcases hk with rfl | rfl | rfl | rfl | rfl | rfl | rfl | rfl
      · exact ⟨1, 1 + Y, by unfold setsB; omega, by omega, by omega, (by kernel_rfl), rfl, rfl⟩
      · exact ⟨2, 1 + Y, by unfold setsB; omega, by omega, by omega, (by kernel_rfl), rfl, rfl⟩
      · exact ⟨4, 1 + Y, by unfold setsB; omega, by omega, by omega, (by kernel_rfl), rfl, rfl⟩
      · exact ⟨8, 1 + Y, by unfold setsB; omega, by omega, by omega, (by kernel_rfl), rfl, rfl⟩
      · exact ⟨16, 1 + Y, by unfold setsB; omega, by omega, by omega, (by kernel_rfl), rfl, rfl⟩
      · exact ⟨32, 1 + Y, by unfold setsB; omega, by omega, by omega, (by kernel_rfl), rfl, rfl⟩
      · exact ⟨64, 1 + Y, by unfold setsB; omega, by omega, by omega, (by kernel_rfl), rfl, rfl⟩
      · exact ⟨1, 1 + Y, by unfold setsB; omega, by omega, by omega, (by kernel_rfl), rfl, rfl⟩
  case rest =>
  obtain ⟨n, wy, hn, h1, h8, rfl, rfl, rfl⟩ := hcut
  have hnw := tlbNew_calls w n wy hn ⟨h1, h8⟩
  have n1 : 1 ≤ n ∧ n ≤ 64 := by unfold setsB at hn; omega
  have HN := Lib.hid (And.intro n1 (And.intro h1 h8))
  clear hn n1 h1 h8 HM HK
  go_wp2_with fail
  (with_reducible refine hnw.mono ?_)
  rintro e z ⟨p, gs, bs, rfl, hT, hO, hp, hg, hb⟩
  rw [tab0 n wy HN.out.1.1] at hT
  have hF : FirstAt w z.heap.size p gs bs n wy 0 [] (.slice none 0 0) z := ⟨hT, own_nil, Nat.zero_le _, (fun a ha => by cases ha), hO, fun b hm => ⟨hb b hm, (tlb_lt hT).2.2 b hm⟩, hO.size, ⟨(tlb_lt hT).1, (tlb_lt hT).2.1⟩, Nat.le_refl _⟩
  have HF := Lib.hid hF
  generalize z.heap.size = B at *
  have w1 : (1 : Int) ≤ wy := by have := HN.out.2.1; omega
  have w8 : (wy : Int) ≤ 8 := by have := HN.out.2.2; omega
  clear hnw hT hO hp hg hb hF
  go_upto_block 0 with (fail)
  go_cut [11, 12, 13, 14, 15, 16] (fun s11 _ _ _ _ _ z => ∃ wx, wx = z ∧ ∃ i L, FirstAt w B p gs bs n wy i L s11 wx)
  case first =>
    go_wp2
    go_loopw [11, 12, 13, 14, 15, 16] (fun s11 s12 _ _ _ _ wx => ∃ (i : Nat) (L : List Ln), i ≤ l.length ∧ i ≤ 20 ∧ s12 = .int .i64 (i : Nat) ∧ FirstAt w B p gs bs n wy i L s11 wx) (fun _ s12 _ _ _ _ _ => l.length - (intOf s12).toNat)
    case atStart => exact ⟨0, [], by omega, by omega, rfl, HF.out⟩
    case round =>
      clear HF
      obtain ⟨i, L, hi, hi20, rfl, hF⟩ := hrel
      have HF := Lib.hid hF
      clear hF
      by_cases hil : i = l.length
      · have e1 : ¬ (i : Int) < l.length := by omega
        clear hil hi hi20
        go_wp2
        go_meet
        case rel => exact ⟨_, rfl, i, L, HF.out⟩
      · have e1 : (i : Int) < l.length := by omega
        by_cases h20 : i = 20
        · have e2 : ¬ (i : Int) < 20 := by omega
          clear hil hi hi20 h20
          go_wp2
          go_meet
          case rel => exact ⟨_, rfl, i, L, HF.out⟩
        · have e2 : (i : Int) < 20 := by omega
          have hlt : i < l.length := by omega
          obtain ⟨way, hway⟩ : ∃ way, l[i]? = some way := ⟨_, List.getElem?_eq_getElem hlt⟩
          obtain ⟨hI64, b0, off, rfl, hb0, hcw⟩ := HI.out.2.2.2 i way hway
          obtain ⟨V, hV⟩ : ∃ V, V = i * n := ⟨_, rfl⟩
          have hlf : lnF n i = ⟨1, 0, V, 0, i, false, false, false, false, false, false⟩ := by rw [hV]; rfl
          have HB0 := Lib.hid hb0
          have HLT := Lib.hid (And.intro hlt (show i < 20 by omega))
          have hin : IntKind.u64.wrap (wrap64 ((i : Int) * n)) = ((V : Nat) : Int) := by
            rw [hV]
            have h1 := HN.out.1.2
            have h2 : i * n ≤ 20 * 64 := Nat.mul_le_mul (by omega) h1
            rw [← Int.natCast_mul, IntWalk.wrap64_in _ (by omega), IntWalk.u64_in _ (by omega)]
          have HLF := Lib.hid hlf
          clear hV hlf
          clear hil hi hi20 h20 hlt
          go_upto_region 10 with (fail)
          have hF := HF.out
          have hO := old_alloc (old_refl wr) (.cells #[Value.int .i64 1, .int .i64 0, .int .u64 (V : Nat), .int .u64 0, .int .i64 (i : Nat), .bool false, .bool false, .bool false, .bool false, .bool false, .bool false] 64)
          have hnb := new_block wr (.cells #[Value.int .i64 1, .int .i64 0, .int .u64 (V : Nat), .int .u64 0, .int .i64 (i : Nat), .bool false, .bool false, .bool false, .bool false, .bool false, .bool false] 64)
          have hT := tlb_old hF.tlb hO
          have hown := own_old hF.own hO
          have hOw := old_then hF.old hO
          have hcW := hOw.cell (p := ⟨b0, off + i, none⟩) hb0
          rw [hcw] at hcW
          have hsz : wr.heap.size < (wr.alloc (.cells #[Value.int .i64 1, .int .i64 0, .int .u64 (V : Nat), .int .u64 0, .int .i64 (i : Nat), .bool false, .bool false, .bool false, .bool false, .bool false, .bool false] 64)).heap.size := by rw [World.size_alloc]; omega
          have hxB := hF.xB
          generalize wr.alloc (.cells #[Value.int .i64 1, .int .i64 0, .int .u64 (V : Nat), .int .u64 0, .int .i64 (i : Nat), .bool false, .bool false, .bool false, .bool false, .bool false, .bool false] 64) = W at *
          generalize wr.heap.size = nb at *
          have HW := Lib.hid (And.intro hnb (And.intro hT (And.intro hown (And.intro hOw (And.intro hsz (And.intro hxB (And.intro hcW hb0)))))))
          have HFF := Lib.hid (And.intro hF.len (And.intro hF.ks (And.intro hF.bB (And.intro hF.pB (And.intro hF.wB hway)))))
          clear hF hO hnb hT hown hOw hsz hxB hcW hb0 hcw HF hway
          obtain ⟨q, hq⟩ : ∃ q, outL wy L way = q := ⟨_, rfl⟩
          have hfill : ∀ x, IsTlb x p gs bs n wy (tabF n wy L) → Calls Try.prog 30 #[.pointer (some ⟨p, 0, none⟩), .agg #[Value.int .i64 1, .int .i64 0, .int .u64 (V : Nat), .int .u64 0, .int .i64 (i : Nat), .bool false, .bool false, .bool false, .bool false, .bool false, .bool false], .int .i64 way] x (fun e y => e = .returned (.tuple #[.agg q.l.cells.toArray, .bool q.on]) ∧
              IsTlb y p gs bs n wy (tabF n wy (stepL wy L (lnF n i) way)) ∧ Only (fun z => z ∈ bs) x y) := fun x h => by
            have := first_fill h i way HFF.out.1 HFF.out.2.1
            have e : (lnF n i).cells.toArray = #[Value.int .i64 1, .int .i64 0, .int .u64 (V : Nat), .int .u64 0, .int .i64 (i : Nat), .bool false, .bool false, .bool false, .bool false, .bool false, .bool false] := by rw [HLF.out]; rfl
            rw [e, hq] at this
            exact this
          have HFill := Lib.hid hfill
          have HQ := Lib.hid hq
          clear hfill hq
          have Hc : ∀ (v : Value) (l : Array Bool) (x : World), FreeS 6 10 11 W.drew p gs bs n wy (tabF n wy L) (tabF n wy (stepL wy L (lnF n i) way)) #[Value.int .i64 0, .int .i64 0, .int .u64 0, .int .u64 0, .int .i64 0, .bool false, .bool false, .bool false, .bool false, .bool false, .bool false] q.l.cells.toArray 64 v l x → (∀ j, x.cell? ⟨nb, j, none⟩ = #[Value.int .i64 1, .int .i64 0, .int .u64 (V : Nat), .int .u64 0, .int .i64 (i : Nat), .bool false, .bool false, .bool false, .bool false, .bool false, .bool false][j]?) ∧ x.cell? ⟨b0, off + i, none⟩ = some (.int .i64 way) := by
            intro v l x hS
            obtain ⟨hnb, hT, hown, hOw, hsz, hxB, hcW, hb0⟩ := HW.out
            have hbs := HFF.out.2.2.1
            have hsw := hOw.size
            refine ⟨fun j => ?_, freeS_cell hS (show b0 < W.heap.size by omega) ?_ hcW⟩
            · exact freeS_cell hS hsz (fun hm => by have := hbs nb hm; omega) (cell_of (w := W.drew) hnb j)
            · intro hm; have := hbs b0 hm; omega
          have HC := Lib.hid Hc
          clear Hc
          refine wp_region_free (S := fun v l x => FreeS 6 10 11 W.drew p gs bs n wy (tabF n wy L) (tabF n wy (stepL wy L (lnF n i) way)) #[Value.int .i64 0, .int .i64 0, .int .u64 0, .int .u64 0, .int .i64 0, .bool false, .bool false, .bool false, .bool false, .bool false, .bool false] q.l.cells.toArray 64 v l x) 10 12 _ rfl (by decide) rfl (.cells #[Value.int .i64 0, .int .i64 0, .int .u64 0, .int .u64 0, .int .i64 0, .bool false, .bool false, .bool false, .bool false, .bool false, .bool false] 64) (by intro b x; simp [execOp, go_sem]) (fun v l x hz hn hS => freeS_alloc hz (by decide) (by decide) (by decide) hn hS) (by kernel_rfl) (by kernel_rfl) (by kernel_rfl) (by decide) undef (freeS_start (tlb_old HW.out.2.1 (old_drew (old_refl _)))) ?_
          refine walkedF_cons (.pointer (some ⟨p, 0, none⟩)) (by decide) ?_ ?_
          · intro v l9 wS hz hn hm hS
            have hS9 := freeS_other 0 (by decide) (by decide) (by decide) hS
            obtain ⟨cA, cB⟩ := HC.out v l9 wS hS
            clear hS hm
            go_wp2
            exact ⟨rfl, rfl, hS9⟩
          (try simp only [Act.put, List.setIfInBounds_toArray, List.set_cons_succ, List.set_cons_zero])
          refine walkedF_cons (.agg #[Value.int .i64 1, .int .i64 0, .int .u64 (V : Nat), .int .u64 0, .int .i64 (i : Nat), .bool false, .bool false, .bool false, .bool false, .bool false, .bool false]) (by decide) ?_ ?_
          · intro v l9 wS hz hn hm hS
            have hS9 := freeS_other 1 (by decide) (by decide) (by decide) hS
            obtain ⟨cA, cB⟩ := HC.out v l9 wS hS
            clear hS hm
            go_wp2
            exact ⟨rfl, rfl, hS9⟩
          (try simp only [Act.put, List.setIfInBounds_toArray, List.set_cons_succ, List.set_cons_zero])
          refine walkedF_cons (.slice (some ⟨b0, off, none⟩) l.length c) (by decide) ?_ ?_
          · intro v l9 wS hz hn hm hS
            have hS9 := freeS_other 2 (by decide) (by decide) (by decide) hS
            obtain ⟨cA, cB⟩ := HC.out v l9 wS hS
            clear hS hm
            go_wp2
            exact ⟨rfl, rfl, hS9⟩
          (try simp only [Act.put, List.setIfInBounds_toArray, List.set_cons_succ, List.set_cons_zero])
          refine walkedF_cons (.int .i64 (i : Nat)) (by decide) ?_ ?_
          · intro v l9 wS hz hn hm hS
            have hS9 := freeS_other 3 (by decide) (by decide) (by decide) hS
            obtain ⟨cA, cB⟩ := HC.out v l9 wS hS
            clear hS hm
            go_wp2
            exact ⟨rfl, rfl, hS9⟩
          (try simp only [Act.put, List.setIfInBounds_toArray, List.set_cons_succ, List.set_cons_zero])
          refine walkedF_cons (.pointer (some ⟨b0, off + i, none⟩)) (by decide) ?_ ?_
          · intro v l9 wS hz hn hm hS
            have hS9 := freeS_other 4 (by decide) (by decide) (by decide) hS
            obtain ⟨cA, cB⟩ := HC.out v l9 wS hS
            clear hS hm
            go_wp2
            exact ⟨rfl, rfl, hS9⟩
          (try simp only [Act.put, List.setIfInBounds_toArray, List.set_cons_succ, List.set_cons_zero])
          refine walkedF_cons (.int .i64 way) (by decide) ?_ ?_
          · intro v l9 wS hz hn hm hS
            have hS9 := freeS_other 5 (by decide) (by decide) (by decide) hS
            obtain ⟨cA, cB⟩ := HC.out v l9 wS hS
            clear hS hm
            go_wp2
            exact ⟨rfl, rfl, hS9⟩
          (try simp only [Act.put, List.setIfInBounds_toArray, List.set_cons_succ, List.set_cons_zero])
          refine walkedF_cons (.tuple #[.agg q.l.cells.toArray, .bool q.on]) (by decide) ?_ ?_
          · intro v l9 wS hz hn hm hS
            have hc := HFill.out wS (freeS_tlb hn hS)
            have hfin := fun y hT ho => freeS_call (y := y) hz (by decide) (by decide) (by decide) hS hT ho
            clear hS hm
            go_wp2_with fail
            (with_reducible refine hc.mono ?_)
            rintro e y ⟨rfl, hT, ho⟩
            have hf := hfin y hT ho
            clear hfin hc hT ho
            go_wp2
            exact ⟨rfl, rfl, hf⟩
          (try simp only [Act.put, List.setIfInBounds_toArray, List.set_cons_succ, List.set_cons_zero])
          refine walkedF_cons (.tuple #[.agg q.l.cells.toArray, .bool q.on]) (by decide) ?_ ?_
          · intro v l9 wS hz hn hm hS
            have hS9 := freeS_other 7 (by decide) (by decide) (by decide) hS
            obtain ⟨cA, cB⟩ := HC.out v l9 wS hS
            clear hS hm
            go_wp2
            exact ⟨rfl, rfl, hS9⟩
          (try simp only [Act.put, List.setIfInBounds_toArray, List.set_cons_succ, List.set_cons_zero])
          refine walkedF_cons (.agg q.l.cells.toArray) (by decide) ?_ ?_
          · intro v l9 wS hz hn hm hS
            have hS9 := freeS_other 8 (by decide) (by decide) (by decide) hS
            obtain ⟨cA, cB⟩ := HC.out v l9 wS hS
            clear hS hm
            go_wp2
            exact ⟨rfl, rfl, hS9⟩
          (try simp only [Act.put, List.setIfInBounds_toArray, List.set_cons_succ, List.set_cons_zero])
          refine walkedF_cons (.bool q.on) (by decide) ?_ ?_
          · intro v l9 wS hz hn hm hS
            have hS9 := freeS_other 9 (by decide) (by decide) (by decide) hS
            obtain ⟨cA, cB⟩ := HC.out v l9 wS hS
            clear hS hm
            go_wp2
            exact ⟨rfl, rfl, hS9⟩
          (try simp only [Act.put, List.setIfInBounds_toArray, List.set_cons_succ, List.set_cons_zero])
          refine walkedF_free ?_
          (try simp only [Act.put, List.setIfInBounds_toArray, List.set_cons_succ, List.set_cons_zero])
          refine walkedF_cons undef (by decide) ?_ ?_
          · intro v l9 wS hz hn hm hS
            have hA : l9.getD 10 false = true := hm _ rfl ⟨10, .data⟩ (by simp) rfl
            obtain ⟨r, rfl, hr, hblk⟩ := hS.2.2.1 hA
            have hfin := freeS_store hz (by decide) (by decide) (by decide) hA rfl hS
            rw [hn] at hblk
            clear hS hm
            go_wp2_with (refine wpList_store_at rfl 64 _ _ rfl r 0 q.l.cells rfl rfl 64 _ hblk (by kernel_rfl) (Nat.le_of_eq rfl) (ln_one _) ?_)
            exact ⟨rfl, rfl, hfin⟩
          (try simp only [Act.put, List.setIfInBounds_toArray, List.set_cons_succ, List.set_cons_zero])
          refine walkedF_nil fun v l9 y hz hall hS => ?_
          have b6 := hall 6 (by decide)
          have b10 := hall 10 (by decide)
          have b11 := hall 11 (by decide)
          obtain ⟨hTy, hOy, hPy, _, _⟩ := hS
          obtain ⟨r, rfl, hr, hQy⟩ := hPy b10
          rw [b6] at hTy
          rw [b11] at hQy
          have hTy : IsTlb y p gs bs n wy (tabF n wy (stepL wy L (lnF n i) way)) := hTy
          have hQy : y.heap[r]? = some (.cells q.l.cells.toArray 64) := hQy
          clear hall b6 b10 b11 hPy
          show wpList _ _ _ [_] _ _
          have hOy : Only (fun z => z ∈ bs) W y := ⟨hOy.os, hOy.tape, hOy.output, hOy.size, hOy.block⟩
          have hW := HW.out
          have hbs := HFF.out.2.2.1
          have hyo : OwnLns y B u11 L := own_only hW.2.2.1 hOy (fun b hb hm => by have := hbs b hm; omega)
          have hyw : Old w y := Only.below ((Only.of_below hW.2.2.2.1).mono (G := fun b => w.heap.size ≤ b) (fun _ _ f => f.elim) |>.trans (hOy.mono fun b _ hm => (hbs b hm).1)) (Nat.le_refl _)
          have hyB : B ≤ y.heap.size := Nat.le_trans hW.2.2.2.2.2.1 (Nat.le_trans (Nat.le_of_lt hW.2.2.2.2.1) hOy.size)
          have hynb : y.heap[nb]? = some (.cells #[Value.int .i64 1, .int .i64 0, .int .u64 (V : Nat), .int .u64 0, .int .i64 (i : Nat), .bool false, .bool false, .bool false, .bool false, .bool false, .bool false] 64) := keep_only hOy (fun hm => by have := hbs nb hm; have := hW.2.2.2.2.2.1; omega) hW.1
          have hyi : y.cell? ⟨b0, off + i, none⟩ = some (.int .i64 way) := by
            have h0 := hW.2.2.2.1.size
            rw [hOy.cell b0 (off + i) (by have := hW.2.2.2.2.2.2.2; have := hW.2.2.2.2.1; omega) (fun hm => by have := hbs b0 hm; have := HB0.out; omega)]
            exact hW.2.2.2.2.2.2.1
          have hrB : B ≤ r := Nat.le_trans (Nat.le_trans hW.2.2.2.2.2.1 (Nat.le_of_lt hW.2.2.2.2.1)) hr
          have HY := Lib.hid (And.intro hTy (And.intro hyo (And.intro hyw (And.intro hyB hrB))))
          obtain ⟨k1, f1, z1⟩ := of_block hynb
          obtain ⟨k2, f2, z2⟩ := of_block hQy
          have HN2 := Lib.hid hynb
          have HR2 := Lib.hid hQy
          obtain ⟨ad, c2, rfl, hlc, hcm, _, q1⟩ := own_value hyo
          clear hTy hyo hyw hyB hrB hW hbs hOy hr HC HFill
          by_cases e : L.length = wy
          · have hq : q = ⟨true, (L[wayJ way wy]?).getD ln0⟩ := by rw [← HQ.out]; unfold outL; rw [if_pos e]
            have hJ := wayJ_eq way wy HN.out.2.1 HN.out.2.2
            have hJL : wayJ way wy < L.length := by rw [e]; exact hJ.2.1
            have hst : stepL wy L (lnF n i) way = L.set (wayJ way wy) (lnF n i) := by unfold stepL; rw [if_pos e]
            obtain ⟨x, hx⟩ : ∃ x, L[wayJ way wy]? = some x := ⟨_, List.getElem?_eq_getElem hJL⟩
            rw [hx] at hq
            have hq : q = ⟨true, x⟩ := hq
            subst hq
            obtain ⟨g, rfl⟩ := q1 (by have := HN.out.2.1; omega)
            have hcell : ∀ (c : Nat) (u : Value), x.cells[c]? = some u → y.cell? ⟨g, wayJ way wy * 11 + c, none⟩ = some u := fun c u hu => own_cell HY.out.2.1 rfl _ (flatC_get ln_len L _ x c u hx hu)
            have hrc : ∀ (c : Nat) (u : Value), x.cells[c]? = some u → y.cell? ⟨r, 0 + c, none⟩ = some u := fun c u hu => by rw [Nat.zero_add, k2 c]; simpa using hu
            obtain ⟨old, hg0, hs0, hgB, hown'⟩ := own_put HY.out.2.1 hJL ⟨1, 0, V, 0, i, false, false, false, false, false, false⟩
            rw [← HLF.out] at hown'
            obtain ⟨hJ1, hJ2, hJ3⟩ := hJ
            generalize wayJ way wy = J at *
            have hb : ((L.length : Int) == (wy : Int)) = true := by simp; omega
            have hn0 : ¬ (wy : Int) = 0 := by have := HN.out.2.1; omega
            have hJi : (J : Int) < L.length := by omega
            have heq := eq_line x x
            rw [(lnB_iff x x).2 rfl] at heq
            have hLn : (L.length : Int) ≤ 1000 := by have := HFF.out.1; have := HN.out.2.2; omega
            have HCL := Lib.hid (And.intro hcell hrc)
            have HS := Lib.hid (And.intro hg0 hs0)
            have HA := Lib.hid (And.intro hown' (And.intro hgB hst))
            have HE := Lib.hid e
            clear e hst hx hcell hrc hg0 hs0 hgB hown' hlc hcm q1 k2 f2 z2 hJ2 hJL
            go_upto_region 16 with (fail)
            refine wp_region_walked (S := Is y.drew) (by kernel_rfl) (by kernel_rfl) rfl ?_
            repeat (apply walked_cons; (first | exact gives_and rfl rfl rfl rfl | exact gives_or rfl rfl rfl rfl | (focus (intro wS hS; cases hS; go_wp2_with (first | (refine wpList_load_at rfl 64 _ rfl r 0 rfl x.cells _ HCL.out.2 Try.underlying64 rfl (by kernel_rfl) ?_) | (refine wpList_load_at rfl 64 _ rfl g (J * 11) rfl x.cells _ HCL.out.1 Try.underlying64 rfl (by kernel_rfl) ?_)); exact ⟨rfl, rfl, rfl⟩; done)) | (focus (apply gives_guard; (focus (first | exact wanted_yes rfl rfl rfl | exact wanted_no rfl rfl rfl | exact wanted_yes2 rfl rfl rfl | exact wanted_no2 rfl rfl rfl)); (focus (intro hx9; (try simp only [Bool.not_eq_true', Bool.and_eq_true, Bool.not_not] at hx9); (try obtain ⟨hx9, hy9⟩ := hx9); (try subst hy9); (try subst hx9); (first | exact gives_and rfl rfl rfl rfl | exact gives_or rfl rfl rfl rfl | (intro wS hS; cases hS; go_wp2_with (first | (refine wpList_load_at rfl 64 _ rfl r 0 rfl x.cells _ HCL.out.2 Try.underlying64 rfl (by kernel_rfl) ?_) | (refine wpList_load_at rfl 64 _ rfl g (J * 11) rfl x.cells _ HCL.out.1 Try.underlying64 rfl (by kernel_rfl) ?_)); exact ⟨rfl, rfl, rfl⟩; done))))))); rfl; (try simp only [Act.put, List.setIfInBounds_toArray, List.set_cons_succ, List.set_cons_zero]))
            apply walked_nil
            intro wS hS
            cases hS
            clear heq hJ1 hJ3 hb
            go_wp2_with (refine wpList_store_at rfl 64 _ _ rfl g (J * 11) [Value.int .i64 1, .int .i64 0, .int .u64 (V : Nat), .int .u64 0, .int .i64 (i : Nat), .bool false, .bool false, .bool false, .bool false, .bool false, .bool false] rfl rfl 64 _ HS.out.1 (by kernel_rfl) HS.out.2 (ln_one ⟨1, 0, V, 0, i, false, false, false, false, false, false⟩) ?_)
            go_roundw
            case rel =>
              obtain ⟨hown', hgB, hst⟩ := HA.out
              have hown' := hown'
              rw [HLF.out, List.append_assoc] at hown'
              have e2 : L.set J (⟨1, 0, V, 0, i, false, false, false, false, false, false⟩ : Ln) = L.set J (lnF n i) := by rw [HLF.out]
              rw [e2] at hown'
              obtain ⟨hTy, hyo, hyw, hyB, hrB⟩ := HY.out
              obtain ⟨f1, f2, f3, f4, f5, _⟩ := HFF.out
              have hgr : Only (fun b => b = g) y (putB y g (.cells (old.toList.take (J * 11) ++ ((⟨1, 0, V, 0, i, false, false, false, false, false, false⟩ : Ln).cells ++ old.toList.drop (J * 11 + (⟨1, 0, V, 0, i, false, false, false, false, false, false⟩ : Ln).cells.length))).toArray 64)) := (Only.refl _ y).putB _ (fun _ => rfl)
              have hd := old_drew (old_refl (putB y g (.cells (old.toList.take (J * 11) ++ ((⟨1, 0, V, 0, i, false, false, false, false, false, false⟩ : Ln).cells ++ old.toList.drop (J * 11 + (⟨1, 0, V, 0, i, false, false, false, false, false, false⟩ : Ln).cells.length))).toArray 64)))
              have e := HE.out
              rw [hst] at hTy
              refine ⟨i + 1, L.set J (lnF n i), HLT.out.1, HLT.out.2, by simp, ?_⟩
              refine { tlb := tlb_old (tlb_only hTy hgr (by omega) (by omega) (fun b hm => by have := f3 b hm; omega)) hd, own := own_old hown' hd, len := by rw [List.length_set]; omega, ks := ?_, old := ?_, bB := f3, wB := f5, pB := f4, xB := Nat.le_trans hyB hgr.size }
              · intro a ha
                rcases List.mem_or_eq_of_mem_set ha with h | h
                · obtain ⟨j, hj, rfl⟩ := f2 a h
                  exact ⟨j, by omega, rfl⟩
                · exact ⟨i, by omega, h⟩
              · exact old_then (Only.below ((Only.of_below hyw).mono (G := fun b => w.heap.size ≤ b) (fun _ _ f => f.elim) |>.trans (hgr.mono fun b _ h => by omega)) (Nat.le_refl _)) hd
            case measure => have := HLT.out.1; (simp [intOf]) <;> omega
          · have hq : q = pl0 := by rw [← HQ.out]; unfold outL; rw [if_neg e]
            have hst : stepL wy L (lnF n i) way = L ++ [lnF n i] := by unfold stepL; rw [if_neg e]
            have hL5 : L.length ≤ 1000 := by have := HFF.out.1; have := HN.out.2.2; omega
            subst hq
            have hb : ((L.length : Int) == (wy : Int)) = false := by simp; omega
            obtain ⟨v', w5, hrun, hown5, hgr⟩ := line_append B y _ L ⟨1, 0, V, 0, i, false, false, false, false, false, false⟩ hL5 HY.out.2.2.2.1 HY.out.2.1
            rw [← HLF.out] at hown5
            have HA := Lib.hid (And.intro hown5 (And.intro hgr hst))
            have HE := Lib.hid e
            have hLn : (L.length : Int) ≤ 1000 := by omega
            clear hown5 hgr hst e hL5 hlc hcm q1
            go_wp2_with (at_builtin; refine wpList_append_run rfl _ _ 59 rfl _ _ rfl rfl _ _ hrun ?_; clear hrun)
            go_roundw
            case rel =>
              obtain ⟨hown5, hgr, hst⟩ := HA.out
              obtain ⟨hTy, hyo, hyw, hyB, hrB⟩ := HY.out
              obtain ⟨f1, f2, f3, f4, f5, _⟩ := HFF.out
              have e := HE.out
              rw [hst] at hTy
              refine ⟨i + 1, L ++ [lnF n i], HLT.out.1, HLT.out.2, by simp, ?_⟩
              refine { tlb := tlb_only hTy hgr (by omega) (by omega) (fun b hm => by have := f3 b hm; omega), own := hown5, len := by rw [List.length_append, List.length_singleton]; omega, ks := ?_, old := ?_, bB := f3, wB := f5, pB := f4, xB := Nat.le_trans hyB hgr.size }
              · intro a ha
                rcases List.mem_append.1 ha with h | h
                · obtain ⟨j, hj, rfl⟩ := f2 a h
                  exact ⟨j, by omega, rfl⟩
                · exact ⟨i, by omega, by simpa using h⟩
              · exact Only.below ((Only.of_below hyw).mono (G := fun b => w.heap.size ≤ b) (fun _ _ f => f.elim) |>.trans (hgr.mono fun b _ h => Nat.le_trans f5 h)) (Nat.le_refl _)
            case measure => have := HLT.out.1; (simp [intOf]) <;> omega
  case rest =>
  clear HF
  obtain ⟨wx, rfl, i, L, hF⟩ := hcut
  have hc := told15_calls wx
  have HF := Lib.hid hF
  obtain ⟨ad2, c2, rfl, _⟩ := own_value hF.own
  clear hF
  go_wp2_with fail
  (with_reducible refine hc.mono ?_)
  rintro e y1 ⟨rfl, hO1⟩
  have hT1 := tlb_old HF.out.tlb hO1
  have hc := list_tlb hT1
  have H1 := Lib.hid hO1
  clear hO1 hT1
  go_wp2_with fail
  (with_reducible refine hc.mono ?_)
  rintro e y2 ⟨v3, B3, rfl, ho3, _, hO2⟩
  rw [linesT_tab] at ho3
  have hl := lines_calls ho3 (own_old (own_old HF.out.own H1.out) hO2) (by have := HF.out.len; have := HN.out.2.2; omega)
  rw [decide_eq_true (rfl : L = L)] at hl
  have H2 := Lib.hid (old_then H1.out hO2)
  clear hc ho3 hO2
  go_wp2_with fail
  (with_reducible refine hl.mono ?_)
  rintro e y3 ⟨rfl, hO3⟩
  have H3 := Lib.hid (old_then HF.out.old (old_then H2.out hO3))
  clear hl hO3
  go_wp2
  go_ret
  exact ⟨rfl, H3.out⟩
end Go.Proofs.Ytfiofjalpaeohaa
