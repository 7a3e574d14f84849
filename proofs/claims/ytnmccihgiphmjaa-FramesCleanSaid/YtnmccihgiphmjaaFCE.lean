/- Texts on the way to the statement FramesClean, several in one file: each part says what it is. -/
import Derived.Test.YtnmccihgiphmjaaFCB
import Derived.Test.YtnmccihgiphmjaaFCD
namespace Go.Proofs.Ytnmccihgiphmjaa
set_option linter.unusedVariables false
set_option linter.unusedSimpArgs false
open Go.ChangeShapes Go.WideShapes Go.Deep Go.RowKit Go.Joins
/-- A step, as it was handed in. -/
structure Op8 where
  kind : Int
  frame : Int
  at_ : Int
/-- Its cells. -/
def Op8.cells (x : Op8) : List Value := [.int .i64 x.kind, .int .i64 x.frame, .int .i64 x.at_]
/-- What is known of it. -/
def Op8.ok (w : World) (x : Op8) : Prop := I64 x.kind ∧ I64 x.frame ∧ I64 x.at_
/-- A slice of steps reads as l. -/
def Op8s (w : World) (ad : Option Addr) (l : List Op8) : Prop :=
  ∀ (i : Nat) (x : Op8), l[i]? = some x → x.ok w ∧ ∃ b off, ad = some ⟨b, off, none⟩ ∧ b < w.heap.size ∧ ∀ (c : Nat) (v : Value), x.cells[c]? = some v → w.cell? ⟨b, off + i * 3 + c, none⟩ = some v
theorem op8_old {w x : World} {o : Op8} (h : o.ok w) (ho : Old w x) : o.ok x := ⟨h.1, h.2.1, h.2.2⟩
theorem op8s_old {w x : World} {ad : Option Addr} {l : List Op8} (h : Op8s w ad l) (ho : Old w x) : Op8s x ad l := by
  intro i y hy
  obtain ⟨h1, b, off, e, hb, hc⟩ := h i y hy
  exact ⟨op8_old h1 ho, b, off, e, Nat.lt_of_lt_of_le hb ho.size, fun c v hv => by rw [ho.cell (p := ⟨b, off + i * 3 + c, none⟩) hb]; exact hc c v hv⟩
section
variable {H : Type} {enc : TypeId × Value → H} {P : Program} {w : World}
theorem open_op8s {t0 e : TypeId} {f0 f1 f2 : Field} {v : Value} {d : DataW H} {p : List MemPlace} (ht : P.underlying t0 = some (.slice e)) (he : P.underlying e = some (.struct #[f0, f1, f2])) (ce : P.cellsOf e = 3)
    (o0 : f0.offset = 0) (o1 : f1.offset = 1) (o2 : f2.offset = 2)
    (c0 : P.cellsOf f0.type = 1) (c1 : P.cellsOf f1.type = 1) (c2 : P.cellsOf f2.type = 1)
    (h0 : P.underlying f0.type = some (.int .i64)) (h1 : P.underlying f1.type = some (.int .i64)) (h2 : P.underlying f2.type = some (.int .i64))
    (hv : ∃ a n c, v = .slice a n c) (h : DataW.Trod enc P w 0 (fun _ => true) true t0 v d p) :
    ∃ ad cap l, v = .slice ad l.length cap ∧ l.length ≤ maxLen ∧ Op8s w ad l := by
  obtain ⟨a0, len0, cap0, rfl⟩ := hv
  obtain ⟨fuel, hf⟩ := h
  rcases Go.Deep.open_slice ht hf with ⟨hcs, _⟩ | ⟨a, len, cap, m, n, D, Pl, hcs, _, hl, hm, hmm, _, hi⟩
  · simp [Value.cells] at hcs
    obtain ⟨rfl, rfl, rfl⟩ := hcs
    exact ⟨none, 0, [], rfl, Nat.zero_le _, fun i x hx => by simp at hx⟩
  · simp [Value.cells] at hcs
    obtain ⟨rfl, rfl, rfl⟩ := hcs
    have hlm : len0 ≤ m := by rw [hmm]; split <;> omega
    have hspot : len0 = 0 ∨ a.spot = none := by
      by_cases hz : len0 = 0
      · exact .inl hz
      · obtain ⟨cs', g1, g2⟩ := hi 0 (by omega)
        rw [ce] at g1
        obtain ⟨_, hlen, hcell⟩ := World.cells?_some g1
        have z0 := hcell 0 (by omega)
        rw [List.getElem?_eq_getElem (show 0 < cs'.length by omega)] at z0
        exact .inr (by simpa [Addr.add] using (cell_plain z0).1)
    obtain ⟨l, hll, hq⟩ := list_of (Q := fun i (x : Op8) => x.ok w ∧ ∃ b off, (some a : Option Addr) = some ⟨b, off, none⟩ ∧ b < w.heap.size ∧ ∀ (c : Nat) (v : Value), x.cells[c]? = some v → w.cell? ⟨b, off + i * 3 + c, none⟩ = some v) len0 (fun i hil => by
      obtain ⟨cs', g1, g2⟩ := hi i (by omega)
      rw [ce] at g1
      obtain ⟨_, hlen, hcell⟩ := World.cells?_some g1
      obtain ⟨xs, k, hk, hxy, _, hxl, hff⟩ := DataW.trod_struct he g2
      match xs, hxl, cs', hlen with
      | [y0, y1, y2], _, [w0, w1, w2], _ =>
        have t0 := hff 0 f0 rfl
        have t1 := hff 1 f1 rfl
        have t2 := hff 2 f2 rfl
        simp only [o0, o1, o2, c0, c1, c2] at t0 t1 t2
        change DataW.trod enc P w 0 _ _ k f0.type [w0] = some y0 at t0
        change DataW.trod enc P w 0 _ _ k f1.type [w1] = some y1 at t1
        change DataW.trod enc P w 0 _ _ k f2.type [w2] = some y2 at t2
        obtain ⟨n0, q0, _, r0⟩ := DataW.trod_int h0 t0
        obtain ⟨n1, q1, _, r1⟩ := DataW.trod_int h1 t1
        obtain ⟨n2, q2, _, r2⟩ := DataW.trod_int h2 t2
        simp only [List.cons.injEq, and_true] at q0 q1 q2
        subst q0 q1 q2
        refine ⟨⟨n0, n1, n2⟩, ⟨i64_of r0, i64_of r1, i64_of r2⟩, ?_⟩
        obtain ⟨ab, ao, spot⟩ := a
        have z0 := hcell 0 (by omega)
        rw [add_add] at z0
        have hspot : spot = none := by
          rcases hspot with e | e
          · omega
          · exact e
        subst hspot
        refine ⟨ab, ao, rfl, ?_, fun c v hc => ?_⟩
        · rw [add_eq _ _ rfl] at z0; exact (cell_plain z0).2
        · have hc6 : c < 3 := (List.getElem?_eq_some_iff.1 hc).1
          have zc := hcell c (by omega)
          rw [add_add, add_eq _ _ rfl] at zc
          rw [show ao + i * 3 + c = ao + (i * 3 + c) by omega, zc]
          exact hc)
    exact ⟨some a, cap0, l, by rw [hll], by omega, fun i x hx => hq i x hx⟩
end
end Go.Proofs.Ytnmccihgiphmjaa
namespace Go.Proofs.Ytnmccihgiphmjaa
set_option linter.unusedVariables false
set_option linter.unusedSimpArgs false
open Go.RowKit
section
set_option maxHeartbeats 32000000 in
set_option maxRecDepth 100000 in
theorem framesClean_walk (x0 : Int) (_ : (Lit.int .i64 x0).wf = true) (ad : Option Addr) (l : List Op8) (c : Nat) (w : World) (hl0 : l.length ≤ 9223372036854775807) (hB : Op8s w ad l) :
    Calls Try.prog 6 #[.int .i64 x0, .slice ad l.length c] w (RetB w (.bool true)) := by
  have hm := i64_mask63 x0
  have b1 : 0 ≤ x0 % 64 := by omega
  have b2 : x0 % 64 < 64 := by omega
  obtain ⟨n, hN⟩ : ∃ n : Nat, 4 + x0 % 64 = n := ⟨(4 + x0 % 64).toNat, by omega⟩
  have hn1 : 4 ≤ n := by omega
  have hn2 : n ≤ 67 := by omega
  have n1 : (4 : Int) ≤ n := by omega
  have n2 : (n : Int) ≤ 67 := by omega
  have hmk := irow_make n (by omega)
  have HN := Lib.hid (show 4 ≤ n ∧ n ≤ 1048576 by omega)
  have hc : Calls Try.prog 7 #[.int .i64 (n : Nat)] w _ := physNew_stands n w (by omega) (by omega)
  have HB := Lib.hid hB
  clear hB
  go_enter Try.func6, Try.ntmps6
  go_wp2_with fail
  (with_reducible refine hc.mono ?_)
  rintro e y1 ⟨p, rfl, h1⟩
  have hc2 : Calls Try.prog 8 #[.pointer (some ⟨p, 0, none⟩), .int .i64 2] y1 _ := frNew_stands (pool := 2) h1 ⟨by decide, by decide, by omega⟩ (by omega)
  clear hc h1 hm b1 b2 hN
  go_wp2_with fail
  (with_reducible refine hc2.mono ?_)
  rintro e y2 ⟨fr, bt, bp, m, rfl, h2⟩
  obtain ⟨g, hg⟩ : ∃ g, y2.heap.size = g := ⟨_, rfl⟩
  have hF0 : FS w fr p bt bp m g n (fun _ => none) 0 (allS 2 n) (fun _ => 0) (List.replicate n 0) (y2.alloc (.cells (irow (List.replicate n 0)) 3)) := by
    rw [← hg]
    exact stands_perm (fun A hA => by simp only [List.mem_cons, List.not_mem_nil, or_false] at hA ⊢; exact hA.symm) (fun O w h => sep_swap h) (stands_pts h2 _ _)
  have hG0 : Good n (n - 2) 0 (List.replicate n 0) (fun _ => none) 0 (allS 2 n) (fun _ => 0) :=
    ⟨hn1, fun x => by rw [allS_iff]; simp, by rw [cntS_all (by omega) (by omega)], by simp, fun x hx => by rw [List.getElem?_replicate, if_pos hx]; rfl, fun _ => Nat.le_refl _, Nat.le_refl _, fun x _ _ => zeros_all⟩
  have HF0 := Lib.hid hF0
  have HG0 := Lib.hid hG0
  have hs2 : (n : Int) - 2 = ((n - 2 : Nat) : Int) := by omega
  clear hc2 h2 hF0 hG0
  go_wp2
  (try rw [hg])
  refine wp_loopF [false, false, false, false, true, false, false, false, false, false, true, true, true, true, true, true, true, true, true, true, true, false, false, false, false, false, false, false, false, false, false, false, false, false, false, false, false, false, false, false, false, false, false, false, false, false, false, false, false, false, true, true, true, true, true, true, true, true, true, true, true, true, true, true, true, true, true, true, true, true, true, true, true, true, true, true, true, true, true, true, true, true, true, true, true, true, true, true, true, true, true, true, true, true, true, true, true, true, true, true, true, true, true, true, true, true, true, true, true, true, true, true, true, true, true, true, true, true, true, true, true, true, true, true, true, true, true, true, true, true, true, true, true, true, true, true, true, true, true, true, true, true, true, true, true, true, true, true, true, true, true, true, true, true, true, true, true, true, true, true, true, true, true, true, true, true, true, true, true, true, true, true, true, true, true, true, true, true, true, true, true, true, true, true, true, true, true, true, true, true, true, true, true, true, true, true, true, true, true, true, true, true, true, true, true, true, true, true, true, true, true, true, true, true, true, true, true, true, true, true, true, true, true, true, true, true, true, true, true, true, true, true, true] (fun f2 wx => ∃ (i u : Nat) (cs : List Int) (pg : Int → Option (List Nat)) (ops : Nat) (Sp : Nat → Bool) (C : Int → Nat), i ≤ 80 ∧ f2 11 = .int .i64 (i : Nat) ∧ f2 10 = .int .i64 (u : Nat) ∧ FS w fr p bt bp m g n pg ops Sp C cs wx ∧ Good n u i cs pg ops Sp C) (fun f2 => 80 - (intOf (f2 11)).toNat) ?start1 ?round1
  case start1 => exact ⟨0, n - 2, _, _, _, _, _, by omega, rfl, rfl, HF0.out, HG0.out⟩
  case round1 =>
    clear HF0 HG0 hmk hg hs2
    intro f2 wr hrel J2 K2 hJ2 hM2
    dsimp only [mergeA, mergeL, Nat.reduceAdd]
    obtain ⟨i, u, cs, pg, ops, Sp, C, hi, h11, h10, hF, hG⟩ := hrel
    rw [h11]
    have H11 := Lib.hid h11
    have HG := Lib.hid hG
    clear h11 hG
    have hend : (¬ i < l.length ∨ (i < l.length ∧ ¬ i < 80)) ∨ (i < l.length ∧ i < 80) := by omega
    rcases hend with hend | ⟨hl, h80⟩
    · have ht := fun x => framesTold_calls x
      have HO := Lib.hid (fs_old hF)
      clear hF HB HG h10
      rcases hend with hl | ⟨hl, h80⟩
      · have i1 : ¬ (i : Int) < (l.length : Int) := by omega
        clear hl
        go_wp2_with fail
        (with_reducible refine (ht _).mono ?_)
        rintro e y9 ⟨rfl, ho9⟩
        have HO9 := Lib.hid ho9
        clear ho9 ht
        go_wp2
        go_ret
        exact ⟨rfl, old_then HO.out HO9.out⟩
      · have i1 : (i : Int) < (l.length : Int) := by omega
        have i2 : ¬ (i : Int) < 80 := by omega
        clear hl h80
        go_wp2_with fail
        (with_reducible refine (ht _).mono ?_)
        rintro e y9 ⟨rfl, ho9⟩
        have HO9 := Lib.hid ho9
        clear ho9 ht
        go_wp2
        go_ret
        exact ⟨rfl, old_then HO.out HO9.out⟩
    · obtain ⟨⟨ok, of_, oa⟩, hb⟩ : ∃ b, l[i]? = some b := ⟨_, List.getElem?_eq_getElem hl⟩
      obtain ⟨⟨ok1, ok2, ok3⟩, bb, off, rfl, -, hcc⟩ := HB.out i _ hb
      have HC : Hid ((∀ y, Old w y → y.cell? ⟨bb, off + i * 3, none⟩ = some (.int .i64 ok)) ∧ (∀ y, Old w y → y.cell? ⟨bb, off + i * 3 + 1, none⟩ = some (.int .i64 of_)) ∧ (∀ y, Old w y → y.cell? ⟨bb, off + i * 3 + 2, none⟩ = some (.int .i64 oa))) := by
        refine Lib.hid ⟨fun y hy => ?_, fun y hy => ?_, fun y hy => ?_⟩ <;>
        · obtain ⟨-, b2, o2, e2, -, hc⟩ := op8s_old HB.out hy i _ hb
          cases e2
          first | exact hc 0 _ rfl | exact hc 1 _ rfl | exact hc 2 _ rfl
      have cK := HC.out.1 wr (fs_old hF)
      have cF := HC.out.2.1 wr (fs_old hF)
      have cA := HC.out.2.2 wr (fs_old hF)
      have i1 : (i : Int) < (l.length : Int) := by omega
      have i2 : (i : Int) < 80 := by omega
      have HI := Lib.hid (show i < 80 ∧ i < l.length from ⟨h80, hl⟩)
      have r1 := Int.lt_tmod_of_pos of_ (b := (n : Int) - 2) (by omega)
      have r2 := Int.tmod_lt_of_pos of_ (b := (n : Int) - 2) (by omega)
      obtain ⟨r, hr⟩ : ∃ r, of_.tmod ((n : Int) - 2) = r := ⟨_, rfl⟩
      rw [hr] at r1 r2
      have s1 := Int.emod_nonneg (r + (n : Int) - 2) (b := (n : Int) - 2) (by omega)
      have s2 := Int.emod_lt_of_pos (r + (n : Int) - 2) (b := (n : Int) - 2) (by omega)
      obtain ⟨j, hj⟩ : ∃ j : Nat, 2 + (r + (n : Int) - 2) % ((n : Int) - 2) = j := ⟨(2 + (r + (n : Int) - 2) % ((n : Int) - 2)).toNat, by omega⟩
      have hun : (u : Int) ≤ 1048576 := by have := cntS_le Sp n; have := HG.out.cnt; omega
      have HJ := Lib.hid (show 2 ≤ j ∧ j < n by omega)
      have j1 : (2 : Int) ≤ j := by omega
      have j2 : (j : Int) < n := by omega
      obtain ⟨d, hd, hd1, hd2⟩ := and4088 oa
      have hk3 := i64_mask3 ok
      clear hb hcc HB ok1 ok2 ok3 hl h80 hi
      have hkk : ok % 4 = 0 ∨ ok % 4 = 1 ∨ ok % 4 = 2 ∨ ok % 4 = 3 := by omega
      rcases hkk with hkk | hkk | hkk | hkk
      · rw [hkk] at hk3
        clear hkk
        rcases u with _ | u
        · rw [h10]
          have H10 := Lib.hid h10
          have hc := fs_page_none HG.out hF
          clear hF h10
          go_wp2_with fail
          (with_reducible refine hc.mono ?_)
          rintro e y1 ⟨rfl, hF1⟩
          clear hc cK cF cA
          have HE := Lib.hid hF1
          clear hF1
          go_wp2
          refine Met.intro (hJ2 _ _ (by kernel_rfl) ?_ ?_)
          · exact ⟨i + 1, 0, cs, pg, ops, Sp, C, by have := HI.out.1; omega, by show Value.int .i64 ((i : Int) + 1) = _; simp, rfl, HE.out, good_more HG.out⟩
          · have := HI.out.1
            rw [H11.out]; show 80 - (intOf (Value.int .i64 ((i : Int) + 1))).toNat < 80 - (intOf (Value.int .i64 (i : Int))).toNat
            simp [intOf]; omega
        · have h10' : f2 10 = .int .i64 ((u : Int) + 1) := h10
          rw [h10']
          have H10 := Lib.hid h10
          clear h10 h10'
          obtain ⟨f, hf2, hfn, hcf, hP, hGG⟩ := fs_page (w := w) (fr := fr) (p := p) (bt := bt) (bp := bp) (m := m) (g := g) HG.out
          obtain ⟨L, hL, hW⟩ := fs_write (w := w) (fr := fr) (p := p) (bt := bt) (bp := bp) (m := m) (g := g) (pg := pg) (ops := ops) (Sp := lessS Sp f 1) (C := updC C (f : Int) 1) (cs := cs) hfn HN.out.2 hd1 hd2 (by have := HG.out.ops; have := HI.out.1; omega)
          have HGG := Lib.hid (hGG L hL)
          have HW := Lib.hid hW
          have hc := hP wr hF
          have k1 : ¬ (f : Int) < 2 := by omega
          have k1n : decide ((f : Int) < 2) = false := decide_eq_false k1
          have k1m : decide (f < 2) = false := decide_eq_false (by omega)
          have k2 : ¬ (n : Int) ≤ (f : Int) := by omega
          have k2n : decide (n ≤ f) = false := decide_eq_false (by omega)
          have k3 : (f : Int) < n := by omega
          have k4 : (f : Int) ≤ 1048576 := by have := HN.out.2; omega
          have k5 : (0 : Int) < (u : Int) + 1 := by omega
          have k6 : (d : Int) ≤ 4088 := by omega
          have k7 : (0 : Int) ≤ (d : Int) := by omega
          have hlen := HG.out.len
          clear hF hP hGG hL hW hd1 hd2
          go_wp2_with fail
          (with_reducible refine hc.mono ?_)
          rintro e y1 ⟨rfl, hF1⟩
          have cf := fs_cell hF1 hcf
          have hcl := fs_clear hF1 f hfn
          rw [pageOf_same, show allZero ((none : Option (List Nat)).getD zeros4096) = true from zeros_all] at hcl
          clear hc hF1 cK cF cA
          go_wp2_with fail
          (with_reducible refine hcl.mono ?_)
          rintro e y2 ⟨rfl, hF2⟩
          have hwr := HW.out y2 hF2
          rw [show ((f * 4096 + d : Nat) : Int) = (f : Int) * 4096 + (d : Int) by omega] at hwr
          have cA := HC.out.2.2 y2 (fs_old hF2)
          clear hcl cf hF2
          go_wp2_with fail
          (with_reducible refine hwr.mono ?_)
          rintro e y3 ⟨rfl, hF3⟩
          have cf := fs_cell hF3 hcf
          have ff := fs_frozen hF3 f
          have h9 : ∃ cs9 pg9 ops9 Sp9 C9, ∃ v9 : Nat, FS w fr p bt bp m g n pg9 ops9 Sp9 C9 cs9 (y3.setCell ⟨g, f, none⟩ (.int .i64 1)) ∧ Good n u (i + 1) cs9 pg9 ops9 Sp9 C9 ∧ C9 (j : Int) = v9 ∧ cs9[j]? = some (v9 : Int) :=
            ⟨_, _, _, _, _, _, fs_set hF3 f 1, HGG.out, rfl, HGG.out.val j HJ.out.2⟩
          clear hwr hF3 HW HGG hcf cA
          obtain ⟨cs9, pg9, ops9, Sp9, C9, v9, hF9, hG9, hv1, hv2⟩ := h9
          have hfr := fs_free hG9 hF9
          have HV9 := Lib.hid (And.intro hv1 hv2)
          have HG9 := Lib.hid hG9
          clear hF9 hG9 hv1 hv2
          go_wp2_with fail
          (with_reducible refine hfr.mono ?_)
          rintro e y8 ⟨rfl, hF8⟩
          have HF9 := Lib.hid hF8
          clear hfr hF8
          clear cf ff k1 k1n k1m k2 k2n k3 k4 k5 k6 k7
          go_upto_region 43 with (fail)
          refine wp_region_walked (S := fun x => FS w fr p bt bp m g n pg9 ops9 Sp9 C9 cs9 x) (by kernel_rfl) (by kernel_rfl) (fs_then HF9.out (old_drew (old_refl _))) ?_
          clear HF9
          apply walked_cons
          · intro wS hS
            have HS := Lib.hid hS
            clear hS
            go_wp2
            exact ⟨rfl, rfl, HS.out⟩
          · rfl
          (try simp only [Act.put, List.setIfInBounds_toArray, List.set_cons_succ, List.set_cons_zero])
          apply walked_cons
          · intro wS hS
            have HS := Lib.hid hS
            clear hS
            go_wp2
            exact ⟨rfl, rfl, HS.out⟩
          · rfl
          (try simp only [Act.put, List.setIfInBounds_toArray, List.set_cons_succ, List.set_cons_zero])
          apply walked_cons
          · intro wS hS
            have HS := Lib.hid hS
            clear hS
            go_wp2
            exact ⟨rfl, rfl, HS.out⟩
          · rfl
          (try simp only [Act.put, List.setIfInBounds_toArray, List.set_cons_succ, List.set_cons_zero])
          apply walked_cons
          · intro wS hS
            have HS := Lib.hid hS
            clear hS
            go_wp2
            exact ⟨rfl, rfl, HS.out⟩
          · rfl
          (try simp only [Act.put, List.setIfInBounds_toArray, List.set_cons_succ, List.set_cons_zero])
          apply walked_cons
          · intro wS hS
            have HS := Lib.hid hS
            clear hS
            go_wp2
            exact ⟨rfl, rfl, HS.out⟩
          · rfl
          (try simp only [Act.put, List.setIfInBounds_toArray, List.set_cons_succ, List.set_cons_zero])
          apply walked_cons
          · intro wS hS
            have HS := Lib.hid hS
            clear hS
            go_wp2
            exact ⟨rfl, rfl, HS.out⟩
          · rfl
          (try simp only [Act.put, List.setIfInBounds_toArray, List.set_cons_succ, List.set_cons_zero])
          apply walked_cons
          · intro wS hS
            have HS := Lib.hid hS
            clear hS
            go_wp2
            exact ⟨rfl, rfl, HS.out⟩
          · rfl
          (try simp only [Act.put, List.setIfInBounds_toArray, List.set_cons_succ, List.set_cons_zero])
          apply walked_cons
          · intro wS hS
            have HS := Lib.hid hS
            clear hS
            go_wp2
            exact ⟨rfl, rfl, HS.out⟩
          · rfl
          (try simp only [Act.put, List.setIfInBounds_toArray, List.set_cons_succ, List.set_cons_zero])
          apply walked_cons
          · intro wS hS
            have HS := Lib.hid hS
            clear hS
            go_wp2
            exact ⟨rfl, rfl, HS.out⟩
          · rfl
          (try simp only [Act.put, List.setIfInBounds_toArray, List.set_cons_succ, List.set_cons_zero])
          apply walked_cons
          · intro wS hS
            have HS := Lib.hid hS
            clear hS
            go_wp2
            exact ⟨rfl, rfl, HS.out⟩
          · rfl
          (try simp only [Act.put, List.setIfInBounds_toArray, List.set_cons_succ, List.set_cons_zero])
          apply walked_cons
          · intro wS hS
            have hc := fs_count hS (j : Int)
            rw [HV9.out.1] at hc
            clear hS
            go_wp2_with fail
            (with_reducible refine hc.mono ?_)
            rintro e y9 ⟨rfl, hY⟩
            have HY := Lib.hid hY
            clear hc hY
            go_wp2
            exact ⟨rfl, rfl, HY.out⟩
          · rfl
          (try simp only [Act.put, List.setIfInBounds_toArray, List.set_cons_succ, List.set_cons_zero])
          apply walked_cons
          · intro wS hS
            have HS := Lib.hid hS
            clear hS
            go_wp2
            exact ⟨rfl, rfl, HS.out⟩
          · rfl
          (try simp only [Act.put, List.setIfInBounds_toArray, List.set_cons_succ, List.set_cons_zero])
          apply walked_cons
          · intro wS hS
            have HS := Lib.hid hS
            clear hS
            go_wp2
            exact ⟨rfl, rfl, HS.out⟩
          · rfl
          (try simp only [Act.put, List.setIfInBounds_toArray, List.set_cons_succ, List.set_cons_zero])
          apply walked_cons
          · intro wS hS
            have HS := Lib.hid hS
            clear hS
            go_wp2
            exact ⟨rfl, rfl, HS.out⟩
          · rfl
          (try simp only [Act.put, List.setIfInBounds_toArray, List.set_cons_succ, List.set_cons_zero])
          apply walked_cons
          · intro wS hS
            have HS := Lib.hid hS
            have cS := fs_cell hS HV9.out.2
            clear hS
            go_wp2
            exact ⟨rfl, rfl, HS.out⟩
          · rfl
          (try simp only [Act.put, List.setIfInBounds_toArray, List.set_cons_succ, List.set_cons_zero])
          apply walked_cons
          · intro wS hS
            have HS := Lib.hid hS
            clear hS
            go_wp2
            exact ⟨rfl, rfl, HS.out⟩
          · rfl
          (try simp only [Act.put, List.setIfInBounds_toArray, List.set_cons_succ, List.set_cons_zero])
          apply walked_cons
          · intro wS hS
            have HS := Lib.hid hS
            clear hS
            go_wp2
            exact ⟨rfl, rfl, HS.out⟩
          · rfl
          (try simp only [Act.put, List.setIfInBounds_toArray, List.set_cons_succ, List.set_cons_zero])
          apply walked_nil
          intro wS hS
          have HE := Lib.hid hS
          clear hS
          go_wp2
          refine Met.intro (hJ2 _ _ (by kernel_rfl) ?_ ?_)
          · exact ⟨i + 1, u, cs9, pg9, ops9, Sp9, C9, by have := HI.out.1; omega, by show Value.int .i64 ((i : Int) + 1) = _; simp, rfl, HE.out, HG9.out⟩
          · have := HI.out.1
            rw [H11.out]; show 80 - (intOf (Value.int .i64 ((i : Int) + 1))).toNat < 80 - (intOf (Value.int .i64 (i : Int))).toNat
            simp [intOf]; omega
      · rw [hkk] at hk3
        clear hkk
        rcases u with _ | u
        · rw [h10]
          have H10 := Lib.hid h10
          have hc := fs_page_none HG.out hF
          clear hF h10
          go_wp2_with fail
          (with_reducible refine hc.mono ?_)
          rintro e y1 ⟨rfl, hF1⟩
          clear hc cK cF cA
          have HE := Lib.hid hF1
          clear hF1
          go_wp2
          refine Met.intro (hJ2 _ _ (by kernel_rfl) ?_ ?_)
          · exact ⟨i + 1, 0, cs, pg, ops, Sp, C, by have := HI.out.1; omega, by show Value.int .i64 ((i : Int) + 1) = _; simp, rfl, HE.out, good_more HG.out⟩
          · have := HI.out.1
            rw [H11.out]; show 80 - (intOf (Value.int .i64 ((i : Int) + 1))).toNat < 80 - (intOf (Value.int .i64 (i : Int))).toNat
            simp [intOf]; omega
        · have h10' : f2 10 = .int .i64 ((u : Int) + 1) := h10
          rw [h10']
          have H10 := Lib.hid h10
          clear h10 h10'
          obtain ⟨f, hf2, hfn, hcf, hP, hGG⟩ := fs_page (w := w) (fr := fr) (p := p) (bt := bt) (bp := bp) (m := m) (g := g) HG.out
          obtain ⟨L, hL, hW⟩ := fs_write (w := w) (fr := fr) (p := p) (bt := bt) (bp := bp) (m := m) (g := g) (pg := pg) (ops := ops) (Sp := lessS Sp f 1) (C := updC C (f : Int) 1) (cs := cs) hfn HN.out.2 hd1 hd2 (by have := HG.out.ops; have := HI.out.1; omega)
          have HGG := Lib.hid (hGG L hL)
          have HW := Lib.hid hW
          have hc := hP wr hF
          have k1 : ¬ (f : Int) < 2 := by omega
          have k1n : decide ((f : Int) < 2) = false := decide_eq_false k1
          have k1m : decide (f < 2) = false := decide_eq_false (by omega)
          have k2 : ¬ (n : Int) ≤ (f : Int) := by omega
          have k2n : decide (n ≤ f) = false := decide_eq_false (by omega)
          have k3 : (f : Int) < n := by omega
          have k4 : (f : Int) ≤ 1048576 := by have := HN.out.2; omega
          have k5 : (0 : Int) < (u : Int) + 1 := by omega
          have k6 : (d : Int) ≤ 4088 := by omega
          have k7 : (0 : Int) ≤ (d : Int) := by omega
          have hlen := HG.out.len
          clear hF hP hGG hL hW hd1 hd2
          go_wp2_with fail
          (with_reducible refine hc.mono ?_)
          rintro e y1 ⟨rfl, hF1⟩
          have cf := fs_cell hF1 hcf
          have hcl := fs_clear hF1 f hfn
          rw [pageOf_same, show allZero ((none : Option (List Nat)).getD zeros4096) = true from zeros_all] at hcl
          clear hc hF1 cK cF cA
          go_wp2_with fail
          (with_reducible refine hcl.mono ?_)
          rintro e y2 ⟨rfl, hF2⟩
          have hwr := HW.out y2 hF2
          rw [show ((f * 4096 + d : Nat) : Int) = (f : Int) * 4096 + (d : Int) by omega] at hwr
          have cA := HC.out.2.2 y2 (fs_old hF2)
          clear hcl cf hF2
          go_wp2_with fail
          (with_reducible refine hwr.mono ?_)
          rintro e y3 ⟨rfl, hF3⟩
          have cf := fs_cell hF3 hcf
          have ff := fs_frozen hF3 f
          have h9 : ∃ cs9 pg9 ops9 Sp9 C9, ∃ v9 : Nat, FS w fr p bt bp m g n pg9 ops9 Sp9 C9 cs9 (y3.setCell ⟨g, f, none⟩ (.int .i64 1)) ∧ Good n u (i + 1) cs9 pg9 ops9 Sp9 C9 ∧ C9 (j : Int) = v9 ∧ cs9[j]? = some (v9 : Int) :=
            ⟨_, _, _, _, _, _, fs_set hF3 f 1, HGG.out, rfl, HGG.out.val j HJ.out.2⟩
          clear hwr hF3 HW HGG hcf cA
          obtain ⟨cs9, pg9, ops9, Sp9, C9, v9, hF9, hG9, hv1, hv2⟩ := h9
          have hfr := fs_free hG9 hF9
          have HV9 := Lib.hid (And.intro hv1 hv2)
          have HG9 := Lib.hid hG9
          clear hF9 hG9 hv1 hv2
          go_wp2_with fail
          (with_reducible refine hfr.mono ?_)
          rintro e y8 ⟨rfl, hF8⟩
          have HF9 := Lib.hid hF8
          clear hfr hF8
          clear cf ff k1 k1n k1m k2 k2n k3 k4 k5 k6 k7
          go_upto_region 43 with (fail)
          refine wp_region_walked (S := fun x => FS w fr p bt bp m g n pg9 ops9 Sp9 C9 cs9 x) (by kernel_rfl) (by kernel_rfl) (fs_then HF9.out (old_drew (old_refl _))) ?_
          clear HF9
          apply walked_cons
          · intro wS hS
            have HS := Lib.hid hS
            clear hS
            go_wp2
            exact ⟨rfl, rfl, HS.out⟩
          · rfl
          (try simp only [Act.put, List.setIfInBounds_toArray, List.set_cons_succ, List.set_cons_zero])
          apply walked_cons
          · intro wS hS
            have HS := Lib.hid hS
            clear hS
            go_wp2
            exact ⟨rfl, rfl, HS.out⟩
          · rfl
          (try simp only [Act.put, List.setIfInBounds_toArray, List.set_cons_succ, List.set_cons_zero])
          apply walked_cons
          · intro wS hS
            have HS := Lib.hid hS
            clear hS
            go_wp2
            exact ⟨rfl, rfl, HS.out⟩
          · rfl
          (try simp only [Act.put, List.setIfInBounds_toArray, List.set_cons_succ, List.set_cons_zero])
          apply walked_cons
          · intro wS hS
            have HS := Lib.hid hS
            clear hS
            go_wp2
            exact ⟨rfl, rfl, HS.out⟩
          · rfl
          (try simp only [Act.put, List.setIfInBounds_toArray, List.set_cons_succ, List.set_cons_zero])
          apply walked_cons
          · intro wS hS
            have HS := Lib.hid hS
            clear hS
            go_wp2
            exact ⟨rfl, rfl, HS.out⟩
          · rfl
          (try simp only [Act.put, List.setIfInBounds_toArray, List.set_cons_succ, List.set_cons_zero])
          apply walked_cons
          · intro wS hS
            have HS := Lib.hid hS
            clear hS
            go_wp2
            exact ⟨rfl, rfl, HS.out⟩
          · rfl
          (try simp only [Act.put, List.setIfInBounds_toArray, List.set_cons_succ, List.set_cons_zero])
          apply walked_cons
          · intro wS hS
            have HS := Lib.hid hS
            clear hS
            go_wp2
            exact ⟨rfl, rfl, HS.out⟩
          · rfl
          (try simp only [Act.put, List.setIfInBounds_toArray, List.set_cons_succ, List.set_cons_zero])
          apply walked_cons
          · intro wS hS
            have HS := Lib.hid hS
            clear hS
            go_wp2
            exact ⟨rfl, rfl, HS.out⟩
          · rfl
          (try simp only [Act.put, List.setIfInBounds_toArray, List.set_cons_succ, List.set_cons_zero])
          apply walked_cons
          · intro wS hS
            have HS := Lib.hid hS
            clear hS
            go_wp2
            exact ⟨rfl, rfl, HS.out⟩
          · rfl
          (try simp only [Act.put, List.setIfInBounds_toArray, List.set_cons_succ, List.set_cons_zero])
          apply walked_cons
          · intro wS hS
            have HS := Lib.hid hS
            clear hS
            go_wp2
            exact ⟨rfl, rfl, HS.out⟩
          · rfl
          (try simp only [Act.put, List.setIfInBounds_toArray, List.set_cons_succ, List.set_cons_zero])
          apply walked_cons
          · intro wS hS
            have hc := fs_count hS (j : Int)
            rw [HV9.out.1] at hc
            clear hS
            go_wp2_with fail
            (with_reducible refine hc.mono ?_)
            rintro e y9 ⟨rfl, hY⟩
            have HY := Lib.hid hY
            clear hc hY
            go_wp2
            exact ⟨rfl, rfl, HY.out⟩
          · rfl
          (try simp only [Act.put, List.setIfInBounds_toArray, List.set_cons_succ, List.set_cons_zero])
          apply walked_cons
          · intro wS hS
            have HS := Lib.hid hS
            clear hS
            go_wp2
            exact ⟨rfl, rfl, HS.out⟩
          · rfl
          (try simp only [Act.put, List.setIfInBounds_toArray, List.set_cons_succ, List.set_cons_zero])
          apply walked_cons
          · intro wS hS
            have HS := Lib.hid hS
            clear hS
            go_wp2
            exact ⟨rfl, rfl, HS.out⟩
          · rfl
          (try simp only [Act.put, List.setIfInBounds_toArray, List.set_cons_succ, List.set_cons_zero])
          apply walked_cons
          · intro wS hS
            have HS := Lib.hid hS
            clear hS
            go_wp2
            exact ⟨rfl, rfl, HS.out⟩
          · rfl
          (try simp only [Act.put, List.setIfInBounds_toArray, List.set_cons_succ, List.set_cons_zero])
          apply walked_cons
          · intro wS hS
            have HS := Lib.hid hS
            have cS := fs_cell hS HV9.out.2
            clear hS
            go_wp2
            exact ⟨rfl, rfl, HS.out⟩
          · rfl
          (try simp only [Act.put, List.setIfInBounds_toArray, List.set_cons_succ, List.set_cons_zero])
          apply walked_cons
          · intro wS hS
            have HS := Lib.hid hS
            clear hS
            go_wp2
            exact ⟨rfl, rfl, HS.out⟩
          · rfl
          (try simp only [Act.put, List.setIfInBounds_toArray, List.set_cons_succ, List.set_cons_zero])
          apply walked_cons
          · intro wS hS
            have HS := Lib.hid hS
            clear hS
            go_wp2
            exact ⟨rfl, rfl, HS.out⟩
          · rfl
          (try simp only [Act.put, List.setIfInBounds_toArray, List.set_cons_succ, List.set_cons_zero])
          apply walked_nil
          intro wS hS
          have HE := Lib.hid hS
          clear hS
          go_wp2
          refine Met.intro (hJ2 _ _ (by kernel_rfl) ?_ ?_)
          · exact ⟨i + 1, u, cs9, pg9, ops9, Sp9, C9, by have := HI.out.1; omega, by show Value.int .i64 ((i : Int) + 1) = _; simp, rfl, HE.out, HG9.out⟩
          · have := HI.out.1
            rw [H11.out]; show 80 - (intOf (Value.int .i64 ((i : Int) + 1))).toNat < 80 - (intOf (Value.int .i64 (i : Int))).toNat
            simp [intOf]; omega
      · rw [hkk] at hk3
        clear hkk hd hd1 hd2
        rw [h10]
        have H10 := Lib.hid h10
        clear h10
        obtain ⟨v, hv⟩ : ∃ v, C (j : Int) = v := ⟨_, rfl⟩
        have hcj := HG.out.val j HJ.out.2
        rw [hv] at hcj
        have hvi : v ≤ i := by rw [← hv]; exact HG.out.few _
        rcases Nat.eq_zero_or_pos v with hv0 | hv0
        · subst hv0
          have hc := fs_ref_none hv hF
          clear hF
          go_wp2_with fail
          (with_reducible refine hc.mono ?_)
          rintro e y1 ⟨rfl, hF1⟩
          have cj := fs_cell hF1 hcj
          have h9 : ∃ cs9 pg9 ops9 Sp9 C9, ∃ v9 : Nat, FS w fr p bt bp m g n pg9 ops9 Sp9 C9 cs9 y1 ∧ Good n u (i + 1) cs9 pg9 ops9 Sp9 C9 ∧ C9 (j : Int) = v9 ∧ cs9[j]? = some (v9 : Int) :=
            ⟨_, _, _, _, _, _, hF1, good_more HG.out, hv, hcj⟩
          clear hc hF1 cK cF cA hcj hv hvi
          obtain ⟨cs9, pg9, ops9, Sp9, C9, v9, hF9, hG9, hv1, hv2⟩ := h9
          have hfr := fs_free hG9 hF9
          have HV9 := Lib.hid (And.intro hv1 hv2)
          have HG9 := Lib.hid hG9
          clear hF9 hG9 hv1 hv2
          go_wp2_with fail
          (with_reducible refine hfr.mono ?_)
          rintro e y8 ⟨rfl, hF8⟩
          have HF9 := Lib.hid hF8
          clear hfr hF8
          clear cj
          go_upto_region 43 with (fail)
          refine wp_region_walked (S := fun x => FS w fr p bt bp m g n pg9 ops9 Sp9 C9 cs9 x) (by kernel_rfl) (by kernel_rfl) (fs_then HF9.out (old_drew (old_refl _))) ?_
          clear HF9
          apply walked_cons
          · intro wS hS
            have HS := Lib.hid hS
            clear hS
            go_wp2
            exact ⟨rfl, rfl, HS.out⟩
          · rfl
          (try simp only [Act.put, List.setIfInBounds_toArray, List.set_cons_succ, List.set_cons_zero])
          apply walked_cons
          · intro wS hS
            have HS := Lib.hid hS
            clear hS
            go_wp2
            exact ⟨rfl, rfl, HS.out⟩
          · rfl
          (try simp only [Act.put, List.setIfInBounds_toArray, List.set_cons_succ, List.set_cons_zero])
          apply walked_cons
          · intro wS hS
            have HS := Lib.hid hS
            clear hS
            go_wp2
            exact ⟨rfl, rfl, HS.out⟩
          · rfl
          (try simp only [Act.put, List.setIfInBounds_toArray, List.set_cons_succ, List.set_cons_zero])
          apply walked_cons
          · intro wS hS
            have HS := Lib.hid hS
            clear hS
            go_wp2
            exact ⟨rfl, rfl, HS.out⟩
          · rfl
          (try simp only [Act.put, List.setIfInBounds_toArray, List.set_cons_succ, List.set_cons_zero])
          apply walked_cons
          · intro wS hS
            have HS := Lib.hid hS
            clear hS
            go_wp2
            exact ⟨rfl, rfl, HS.out⟩
          · rfl
          (try simp only [Act.put, List.setIfInBounds_toArray, List.set_cons_succ, List.set_cons_zero])
          apply walked_cons
          · intro wS hS
            have HS := Lib.hid hS
            clear hS
            go_wp2
            exact ⟨rfl, rfl, HS.out⟩
          · rfl
          (try simp only [Act.put, List.setIfInBounds_toArray, List.set_cons_succ, List.set_cons_zero])
          apply walked_cons
          · intro wS hS
            have HS := Lib.hid hS
            clear hS
            go_wp2
            exact ⟨rfl, rfl, HS.out⟩
          · rfl
          (try simp only [Act.put, List.setIfInBounds_toArray, List.set_cons_succ, List.set_cons_zero])
          apply walked_cons
          · intro wS hS
            have HS := Lib.hid hS
            clear hS
            go_wp2
            exact ⟨rfl, rfl, HS.out⟩
          · rfl
          (try simp only [Act.put, List.setIfInBounds_toArray, List.set_cons_succ, List.set_cons_zero])
          apply walked_cons
          · intro wS hS
            have HS := Lib.hid hS
            clear hS
            go_wp2
            exact ⟨rfl, rfl, HS.out⟩
          · rfl
          (try simp only [Act.put, List.setIfInBounds_toArray, List.set_cons_succ, List.set_cons_zero])
          apply walked_cons
          · intro wS hS
            have HS := Lib.hid hS
            clear hS
            go_wp2
            exact ⟨rfl, rfl, HS.out⟩
          · rfl
          (try simp only [Act.put, List.setIfInBounds_toArray, List.set_cons_succ, List.set_cons_zero])
          apply walked_cons
          · intro wS hS
            have hc := fs_count hS (j : Int)
            rw [HV9.out.1] at hc
            clear hS
            go_wp2_with fail
            (with_reducible refine hc.mono ?_)
            rintro e y9 ⟨rfl, hY⟩
            have HY := Lib.hid hY
            clear hc hY
            go_wp2
            exact ⟨rfl, rfl, HY.out⟩
          · rfl
          (try simp only [Act.put, List.setIfInBounds_toArray, List.set_cons_succ, List.set_cons_zero])
          apply walked_cons
          · intro wS hS
            have HS := Lib.hid hS
            clear hS
            go_wp2
            exact ⟨rfl, rfl, HS.out⟩
          · rfl
          (try simp only [Act.put, List.setIfInBounds_toArray, List.set_cons_succ, List.set_cons_zero])
          apply walked_cons
          · intro wS hS
            have HS := Lib.hid hS
            clear hS
            go_wp2
            exact ⟨rfl, rfl, HS.out⟩
          · rfl
          (try simp only [Act.put, List.setIfInBounds_toArray, List.set_cons_succ, List.set_cons_zero])
          apply walked_cons
          · intro wS hS
            have HS := Lib.hid hS
            clear hS
            go_wp2
            exact ⟨rfl, rfl, HS.out⟩
          · rfl
          (try simp only [Act.put, List.setIfInBounds_toArray, List.set_cons_succ, List.set_cons_zero])
          apply walked_cons
          · intro wS hS
            have HS := Lib.hid hS
            have cS := fs_cell hS HV9.out.2
            clear hS
            go_wp2
            exact ⟨rfl, rfl, HS.out⟩
          · rfl
          (try simp only [Act.put, List.setIfInBounds_toArray, List.set_cons_succ, List.set_cons_zero])
          apply walked_cons
          · intro wS hS
            have HS := Lib.hid hS
            clear hS
            go_wp2
            exact ⟨rfl, rfl, HS.out⟩
          · rfl
          (try simp only [Act.put, List.setIfInBounds_toArray, List.set_cons_succ, List.set_cons_zero])
          apply walked_cons
          · intro wS hS
            have HS := Lib.hid hS
            clear hS
            go_wp2
            exact ⟨rfl, rfl, HS.out⟩
          · rfl
          (try simp only [Act.put, List.setIfInBounds_toArray, List.set_cons_succ, List.set_cons_zero])
          apply walked_nil
          intro wS hS
          have HE := Lib.hid hS
          clear hS
          go_wp2
          refine Met.intro (hJ2 _ _ (by kernel_rfl) ?_ ?_)
          · exact ⟨i + 1, u, cs9, pg9, ops9, Sp9, C9, by have := HI.out.1; omega, by show Value.int .i64 ((i : Int) + 1) = _; simp, rfl, HE.out, HG9.out⟩
          · have := HI.out.1
            rw [H11.out]; show 80 - (intOf (Value.int .i64 ((i : Int) + 1))).toNat < 80 - (intOf (Value.int .i64 (i : Int))).toNat
            simp [intOf]; omega
        · have hc := fs_ref (k := (j : Int)) (by omega) (by have := HI.out.1; omega) hF
          rw [hv, Int.natCast_add] at hc
          have hGG := good_count HG.out (k := j) (v := v + 1) (by omega) (by omega) (by omega)
          rw [Int.natCast_add] at hGG
          have HGG := Lib.hid hGG
          have k1 : (0 : Int) < (v : Int) := by omega
          have k1n : decide (0 < v) = true := decide_eq_true hv0
          have k2 : (v : Int) ≤ 1048576 := by have := HI.out.1; omega
          have hlen := HG.out.len
          clear hF hGG hv0
          go_wp2_with fail
          (with_reducible refine hc.mono ?_)
          rintro e y1 ⟨rfl, hF1⟩
          have cj := fs_cell hF1 hcj
          have ff := fs_frozen hF1 j
          have hY := fs_set hF1 j ((v : Int) + 1)
          have hcj2 : (cs.set j ((v : Int) + 1))[j]? = some ((v : Int) + 1) := List.getElem?_set_self (by have := HJ.out.2; omega)
          have cY := fs_cell hY hcj2
          have h9 : ∃ cs9 pg9 ops9 Sp9 C9, ∃ v9 : Nat, FS w fr p bt bp m g n pg9 ops9 Sp9 C9 cs9 (y1.setCell ⟨g, j, none⟩ (.int .i64 ((v : Int) + 1))) ∧ Good n u (i + 1) cs9 pg9 ops9 Sp9 C9 ∧ C9 (j : Int) = v9 ∧ cs9[j]? = some (v9 : Int) :=
            ⟨_, _, _, _, _, v + 1, hY, HGG.out, updC_same .., hcj2⟩
          clear hc hF1 hY hcj2 HGG cK cF cA hcj hv hvi
          obtain ⟨cs9, pg9, ops9, Sp9, C9, v9, hF9, hG9, hv1, hv2⟩ := h9
          have hfr := fs_free hG9 hF9
          have HV9 := Lib.hid (And.intro hv1 hv2)
          have HG9 := Lib.hid hG9
          clear hF9 hG9 hv1 hv2
          go_wp2_with fail
          (with_reducible refine hfr.mono ?_)
          rintro e y8 ⟨rfl, hF8⟩
          have HF9 := Lib.hid hF8
          clear hfr hF8
          clear cj ff cY k1 k1n k2
          go_upto_region 43 with (fail)
          refine wp_region_walked (S := fun x => FS w fr p bt bp m g n pg9 ops9 Sp9 C9 cs9 x) (by kernel_rfl) (by kernel_rfl) (fs_then HF9.out (old_drew (old_refl _))) ?_
          clear HF9
          apply walked_cons
          · intro wS hS
            have HS := Lib.hid hS
            clear hS
            go_wp2
            exact ⟨rfl, rfl, HS.out⟩
          · rfl
          (try simp only [Act.put, List.setIfInBounds_toArray, List.set_cons_succ, List.set_cons_zero])
          apply walked_cons
          · intro wS hS
            have HS := Lib.hid hS
            clear hS
            go_wp2
            exact ⟨rfl, rfl, HS.out⟩
          · rfl
          (try simp only [Act.put, List.setIfInBounds_toArray, List.set_cons_succ, List.set_cons_zero])
          apply walked_cons
          · intro wS hS
            have HS := Lib.hid hS
            clear hS
            go_wp2
            exact ⟨rfl, rfl, HS.out⟩
          · rfl
          (try simp only [Act.put, List.setIfInBounds_toArray, List.set_cons_succ, List.set_cons_zero])
          apply walked_cons
          · intro wS hS
            have HS := Lib.hid hS
            clear hS
            go_wp2
            exact ⟨rfl, rfl, HS.out⟩
          · rfl
          (try simp only [Act.put, List.setIfInBounds_toArray, List.set_cons_succ, List.set_cons_zero])
          apply walked_cons
          · intro wS hS
            have HS := Lib.hid hS
            clear hS
            go_wp2
            exact ⟨rfl, rfl, HS.out⟩
          · rfl
          (try simp only [Act.put, List.setIfInBounds_toArray, List.set_cons_succ, List.set_cons_zero])
          apply walked_cons
          · intro wS hS
            have HS := Lib.hid hS
            clear hS
            go_wp2
            exact ⟨rfl, rfl, HS.out⟩
          · rfl
          (try simp only [Act.put, List.setIfInBounds_toArray, List.set_cons_succ, List.set_cons_zero])
          apply walked_cons
          · intro wS hS
            have HS := Lib.hid hS
            clear hS
            go_wp2
            exact ⟨rfl, rfl, HS.out⟩
          · rfl
          (try simp only [Act.put, List.setIfInBounds_toArray, List.set_cons_succ, List.set_cons_zero])
          apply walked_cons
          · intro wS hS
            have HS := Lib.hid hS
            clear hS
            go_wp2
            exact ⟨rfl, rfl, HS.out⟩
          · rfl
          (try simp only [Act.put, List.setIfInBounds_toArray, List.set_cons_succ, List.set_cons_zero])
          apply walked_cons
          · intro wS hS
            have HS := Lib.hid hS
            clear hS
            go_wp2
            exact ⟨rfl, rfl, HS.out⟩
          · rfl
          (try simp only [Act.put, List.setIfInBounds_toArray, List.set_cons_succ, List.set_cons_zero])
          apply walked_cons
          · intro wS hS
            have HS := Lib.hid hS
            clear hS
            go_wp2
            exact ⟨rfl, rfl, HS.out⟩
          · rfl
          (try simp only [Act.put, List.setIfInBounds_toArray, List.set_cons_succ, List.set_cons_zero])
          apply walked_cons
          · intro wS hS
            have hc := fs_count hS (j : Int)
            rw [HV9.out.1] at hc
            clear hS
            go_wp2_with fail
            (with_reducible refine hc.mono ?_)
            rintro e y9 ⟨rfl, hY⟩
            have HY := Lib.hid hY
            clear hc hY
            go_wp2
            exact ⟨rfl, rfl, HY.out⟩
          · rfl
          (try simp only [Act.put, List.setIfInBounds_toArray, List.set_cons_succ, List.set_cons_zero])
          apply walked_cons
          · intro wS hS
            have HS := Lib.hid hS
            clear hS
            go_wp2
            exact ⟨rfl, rfl, HS.out⟩
          · rfl
          (try simp only [Act.put, List.setIfInBounds_toArray, List.set_cons_succ, List.set_cons_zero])
          apply walked_cons
          · intro wS hS
            have HS := Lib.hid hS
            clear hS
            go_wp2
            exact ⟨rfl, rfl, HS.out⟩
          · rfl
          (try simp only [Act.put, List.setIfInBounds_toArray, List.set_cons_succ, List.set_cons_zero])
          apply walked_cons
          · intro wS hS
            have HS := Lib.hid hS
            clear hS
            go_wp2
            exact ⟨rfl, rfl, HS.out⟩
          · rfl
          (try simp only [Act.put, List.setIfInBounds_toArray, List.set_cons_succ, List.set_cons_zero])
          apply walked_cons
          · intro wS hS
            have HS := Lib.hid hS
            have cS := fs_cell hS HV9.out.2
            clear hS
            go_wp2
            exact ⟨rfl, rfl, HS.out⟩
          · rfl
          (try simp only [Act.put, List.setIfInBounds_toArray, List.set_cons_succ, List.set_cons_zero])
          apply walked_cons
          · intro wS hS
            have HS := Lib.hid hS
            clear hS
            go_wp2
            exact ⟨rfl, rfl, HS.out⟩
          · rfl
          (try simp only [Act.put, List.setIfInBounds_toArray, List.set_cons_succ, List.set_cons_zero])
          apply walked_cons
          · intro wS hS
            have HS := Lib.hid hS
            clear hS
            go_wp2
            exact ⟨rfl, rfl, HS.out⟩
          · rfl
          (try simp only [Act.put, List.setIfInBounds_toArray, List.set_cons_succ, List.set_cons_zero])
          apply walked_nil
          intro wS hS
          have HE := Lib.hid hS
          clear hS
          go_wp2
          refine Met.intro (hJ2 _ _ (by kernel_rfl) ?_ ?_)
          · exact ⟨i + 1, u, cs9, pg9, ops9, Sp9, C9, by have := HI.out.1; omega, by show Value.int .i64 ((i : Int) + 1) = _; simp, rfl, HE.out, HG9.out⟩
          · have := HI.out.1
            rw [H11.out]; show 80 - (intOf (Value.int .i64 ((i : Int) + 1))).toNat < 80 - (intOf (Value.int .i64 (i : Int))).toNat
            simp [intOf]; omega
      · rw [hkk] at hk3
        clear hkk hd hd1 hd2
        rw [h10]
        have H10 := Lib.hid h10
        clear h10
        obtain ⟨v, hv⟩ : ∃ v, C (j : Int) = v := ⟨_, rfl⟩
        have hcj := HG.out.val j HJ.out.2
        rw [hv] at hcj
        have hvi : v ≤ i := by rw [← hv]; exact HG.out.few _
        rcases v with _ | _ | v
        · have hc := fs_drop_none hv hF
          clear hF
          go_wp2_with fail
          (with_reducible refine hc.mono ?_)
          rintro e y1 ⟨rfl, hF1⟩
          have cj := fs_cell hF1 hcj
          clear hc cK cF cA hcj hv hvi
          have HE := Lib.hid hF1
          clear hF1
          go_wp2
          refine Met.intro (hJ2 _ _ (by kernel_rfl) ?_ ?_)
          · exact ⟨i + 1, u, cs, pg, ops, Sp, C, by have := HI.out.1; omega, by show Value.int .i64 ((i : Int) + 1) = _; simp, rfl, HE.out, good_more HG.out⟩
          · have := HI.out.1
            rw [H11.out]; show 80 - (intOf (Value.int .i64 ((i : Int) + 1))).toNat < 80 - (intOf (Value.int .i64 (i : Int))).toNat
            simp [intOf]; omega
        · have hc := fs_drop_zero HG.out HJ.out.1 HJ.out.2 hv hF
          have hGG := good_gone HG.out HJ.out.1 HJ.out.2 hv
          have HGG := Lib.hid hGG
          have hlen := HG.out.len
          have k1 : (u : Int) ≤ 1048576 := by have := cntS_le Sp n; have := HG.out.cnt; have := HN.out.2; omega
          clear hF hGG
          go_wp2_with fail
          (with_reducible refine hc.mono ?_)
          rintro e y1 ⟨rfl, hF1⟩
          have cj : y1.cell? ⟨g, j, none⟩ = some (.int .i64 1) := fs_cell hF1 hcj
          have ff := fs_frozen hF1 j
          have hY := fs_set hF1 j 0
          have hcj2 : (cs.set j (0 : Int))[j]? = some 0 := List.getElem?_set_self (by have := HJ.out.2; omega)
          have cY := fs_cell hY hcj2
          have hcl := fs_clear hY j HJ.out.2
          rw [pageOf_same, show allZero ((none : Option (List Nat)).getD zeros4096) = true from zeros_all] at hcl
          have HCJ := Lib.hid hcj2
          clear hc hF1 hY hcj2 cK cF cA hcj hv hvi
          go_wp2_with fail
          (with_reducible refine hcl.mono ?_)
          rintro e y2 ⟨rfl, hF2⟩
          have h9 : ∃ cs9 pg9 ops9 Sp9 C9, ∃ v9 : Nat, FS w fr p bt bp m g n pg9 ops9 Sp9 C9 cs9 y2 ∧ Good n (u + 1) (i + 1) cs9 pg9 ops9 Sp9 C9 ∧ C9 (j : Int) = v9 ∧ cs9[j]? = some (v9 : Int) :=
            ⟨_, _, _, _, _, 0, hF2, HGG.out, updC_same .., HCJ.out⟩
          clear hcl hF2 HGG HCJ
          obtain ⟨cs9, pg9, ops9, Sp9, C9, v9, hF9, hG9, hv1, hv2⟩ := h9
          have hfr := fs_free hG9 hF9
          have HV9 := Lib.hid (And.intro hv1 hv2)
          have HG9 := Lib.hid hG9
          clear hF9 hG9 hv1 hv2
          go_wp2_with fail
          (with_reducible refine hfr.mono ?_)
          rintro e y8 ⟨rfl, hF8⟩
          have HF9 := Lib.hid hF8
          clear hfr hF8
          clear cj ff cY k1
          go_upto_region 43 with (fail)
          refine wp_region_walked (S := fun x => FS w fr p bt bp m g n pg9 ops9 Sp9 C9 cs9 x) (by kernel_rfl) (by kernel_rfl) (fs_then HF9.out (old_drew (old_refl _))) ?_
          clear HF9
          apply walked_cons
          · intro wS hS
            have HS := Lib.hid hS
            clear hS
            go_wp2
            exact ⟨rfl, rfl, HS.out⟩
          · rfl
          (try simp only [Act.put, List.setIfInBounds_toArray, List.set_cons_succ, List.set_cons_zero])
          apply walked_cons
          · intro wS hS
            have HS := Lib.hid hS
            clear hS
            go_wp2
            exact ⟨rfl, rfl, HS.out⟩
          · rfl
          (try simp only [Act.put, List.setIfInBounds_toArray, List.set_cons_succ, List.set_cons_zero])
          apply walked_cons
          · intro wS hS
            have HS := Lib.hid hS
            clear hS
            go_wp2
            exact ⟨rfl, rfl, HS.out⟩
          · rfl
          (try simp only [Act.put, List.setIfInBounds_toArray, List.set_cons_succ, List.set_cons_zero])
          apply walked_cons
          · intro wS hS
            have HS := Lib.hid hS
            clear hS
            go_wp2
            exact ⟨rfl, rfl, HS.out⟩
          · rfl
          (try simp only [Act.put, List.setIfInBounds_toArray, List.set_cons_succ, List.set_cons_zero])
          apply walked_cons
          · intro wS hS
            have HS := Lib.hid hS
            clear hS
            go_wp2
            exact ⟨rfl, rfl, HS.out⟩
          · rfl
          (try simp only [Act.put, List.setIfInBounds_toArray, List.set_cons_succ, List.set_cons_zero])
          apply walked_cons
          · intro wS hS
            have HS := Lib.hid hS
            clear hS
            go_wp2
            exact ⟨rfl, rfl, HS.out⟩
          · rfl
          (try simp only [Act.put, List.setIfInBounds_toArray, List.set_cons_succ, List.set_cons_zero])
          apply walked_cons
          · intro wS hS
            have HS := Lib.hid hS
            clear hS
            go_wp2
            exact ⟨rfl, rfl, HS.out⟩
          · rfl
          (try simp only [Act.put, List.setIfInBounds_toArray, List.set_cons_succ, List.set_cons_zero])
          apply walked_cons
          · intro wS hS
            have HS := Lib.hid hS
            clear hS
            go_wp2
            exact ⟨rfl, rfl, HS.out⟩
          · rfl
          (try simp only [Act.put, List.setIfInBounds_toArray, List.set_cons_succ, List.set_cons_zero])
          apply walked_cons
          · intro wS hS
            have HS := Lib.hid hS
            clear hS
            go_wp2
            exact ⟨rfl, rfl, HS.out⟩
          · rfl
          (try simp only [Act.put, List.setIfInBounds_toArray, List.set_cons_succ, List.set_cons_zero])
          apply walked_cons
          · intro wS hS
            have HS := Lib.hid hS
            clear hS
            go_wp2
            exact ⟨rfl, rfl, HS.out⟩
          · rfl
          (try simp only [Act.put, List.setIfInBounds_toArray, List.set_cons_succ, List.set_cons_zero])
          apply walked_cons
          · intro wS hS
            have hc := fs_count hS (j : Int)
            rw [HV9.out.1] at hc
            clear hS
            go_wp2_with fail
            (with_reducible refine hc.mono ?_)
            rintro e y9 ⟨rfl, hY⟩
            have HY := Lib.hid hY
            clear hc hY
            go_wp2
            exact ⟨rfl, rfl, HY.out⟩
          · rfl
          (try simp only [Act.put, List.setIfInBounds_toArray, List.set_cons_succ, List.set_cons_zero])
          apply walked_cons
          · intro wS hS
            have HS := Lib.hid hS
            clear hS
            go_wp2
            exact ⟨rfl, rfl, HS.out⟩
          · rfl
          (try simp only [Act.put, List.setIfInBounds_toArray, List.set_cons_succ, List.set_cons_zero])
          apply walked_cons
          · intro wS hS
            have HS := Lib.hid hS
            clear hS
            go_wp2
            exact ⟨rfl, rfl, HS.out⟩
          · rfl
          (try simp only [Act.put, List.setIfInBounds_toArray, List.set_cons_succ, List.set_cons_zero])
          apply walked_cons
          · intro wS hS
            have HS := Lib.hid hS
            clear hS
            go_wp2
            exact ⟨rfl, rfl, HS.out⟩
          · rfl
          (try simp only [Act.put, List.setIfInBounds_toArray, List.set_cons_succ, List.set_cons_zero])
          apply walked_cons
          · intro wS hS
            have HS := Lib.hid hS
            have cS := fs_cell hS HV9.out.2
            clear hS
            go_wp2
            exact ⟨rfl, rfl, HS.out⟩
          · rfl
          (try simp only [Act.put, List.setIfInBounds_toArray, List.set_cons_succ, List.set_cons_zero])
          apply walked_cons
          · intro wS hS
            have HS := Lib.hid hS
            clear hS
            go_wp2
            exact ⟨rfl, rfl, HS.out⟩
          · rfl
          (try simp only [Act.put, List.setIfInBounds_toArray, List.set_cons_succ, List.set_cons_zero])
          apply walked_cons
          · intro wS hS
            have HS := Lib.hid hS
            clear hS
            go_wp2
            exact ⟨rfl, rfl, HS.out⟩
          · rfl
          (try simp only [Act.put, List.setIfInBounds_toArray, List.set_cons_succ, List.set_cons_zero])
          apply walked_nil
          intro wS hS
          have HE := Lib.hid hS
          clear hS
          go_wp2
          refine Met.intro (hJ2 _ _ (by kernel_rfl) ?_ ?_)
          · exact ⟨i + 1, u + 1, cs9, pg9, ops9, Sp9, C9, by have := HI.out.1; omega, by show Value.int .i64 ((i : Int) + 1) = _; simp, rfl, HE.out, HG9.out⟩
          · have := HI.out.1
            rw [H11.out]; show 80 - (intOf (Value.int .i64 ((i : Int) + 1))).toNat < 80 - (intOf (Value.int .i64 (i : Int))).toNat
            simp [intOf]; omega
        · have hc := fs_drop_less (k := (j : Int)) (by omega) (by have := HI.out.1; omega) hF
          rw [hv, show v + 1 + 1 - 1 = v + 1 from rfl, Int.natCast_add] at hc
          have hGG := good_count HG.out (k := j) (v := v + 1) (by omega) (by omega) (by omega)
          rw [Int.natCast_add] at hGG
          have hcl0 := HG.out.clean j HJ.out.1 HJ.out.2
          rw [decide_eq_false (by omega)] at hcl0
          have HGG := Lib.hid hGG
          have k1 : (0 : Int) < (v : Int) + 2 := by omega
          have k2 : (v : Int) ≤ 1048576 := by have := HI.out.1; omega
          have k3 : (v : Int) + 2 - 1 = (v : Int) + 1 := by omega
          have k4 : ¬ (v : Int) + 1 = 0 := by omega
          have k5 : ((v : Int) + 1 == 0) = false := by simp; omega
          have hlen := HG.out.len
          have hcj3 : cs[j]? = some ((v : Int) + 2) := hcj
          clear hF hGG
          go_wp2_with fail
          (with_reducible refine hc.mono ?_)
          rintro e y1 ⟨rfl, hF1⟩
          have cj := fs_cell hF1 hcj3
          have ff := fs_frozen hF1 j
          have hY := fs_set hF1 j ((v : Int) + 1)
          have hcj2 : (cs.set j ((v : Int) + 1))[j]? = some ((v : Int) + 1) := List.getElem?_set_self (by have := HJ.out.2; omega)
          have cY := fs_cell hY hcj2
          have hcl := fs_clear hY j HJ.out.2
          rw [hcl0] at hcl
          have HCJ := Lib.hid hcj2
          clear hc hF1 hY hcj2 hcj3 hcl0 cK cF cA hcj hv hvi
          go_wp2_with fail
          (with_reducible refine hcl.mono ?_)
          rintro e y2 ⟨rfl, hF2⟩
          have h9 : ∃ cs9 pg9 ops9 Sp9 C9, ∃ v9 : Nat, FS w fr p bt bp m g n pg9 ops9 Sp9 C9 cs9 y2 ∧ Good n u (i + 1) cs9 pg9 ops9 Sp9 C9 ∧ C9 (j : Int) = v9 ∧ cs9[j]? = some (v9 : Int) :=
            ⟨_, _, _, _, _, v + 1, hF2, HGG.out, updC_same .., HCJ.out⟩
          clear hcl hF2 HGG HCJ
          obtain ⟨cs9, pg9, ops9, Sp9, C9, v9, hF9, hG9, hv1, hv2⟩ := h9
          have hfr := fs_free hG9 hF9
          have HV9 := Lib.hid (And.intro hv1 hv2)
          have HG9 := Lib.hid hG9
          clear hF9 hG9 hv1 hv2
          go_wp2_with fail
          (with_reducible refine hfr.mono ?_)
          rintro e y8 ⟨rfl, hF8⟩
          have HF9 := Lib.hid hF8
          clear hfr hF8
          clear cj ff cY k1 k2 k3
          go_upto_region 43 with (fail)
          refine wp_region_walked (S := fun x => FS w fr p bt bp m g n pg9 ops9 Sp9 C9 cs9 x) (by kernel_rfl) (by kernel_rfl) (fs_then HF9.out (old_drew (old_refl _))) ?_
          clear HF9
          apply walked_cons
          · intro wS hS
            have HS := Lib.hid hS
            clear hS
            go_wp2
            exact ⟨rfl, rfl, HS.out⟩
          · rfl
          (try simp only [Act.put, List.setIfInBounds_toArray, List.set_cons_succ, List.set_cons_zero])
          apply walked_cons
          · intro wS hS
            have HS := Lib.hid hS
            clear hS
            go_wp2
            exact ⟨rfl, rfl, HS.out⟩
          · rfl
          (try simp only [Act.put, List.setIfInBounds_toArray, List.set_cons_succ, List.set_cons_zero])
          apply walked_cons
          · intro wS hS
            have HS := Lib.hid hS
            clear hS
            go_wp2
            exact ⟨rfl, rfl, HS.out⟩
          · rfl
          (try simp only [Act.put, List.setIfInBounds_toArray, List.set_cons_succ, List.set_cons_zero])
          apply walked_cons
          · intro wS hS
            have HS := Lib.hid hS
            clear hS
            go_wp2
            exact ⟨rfl, rfl, HS.out⟩
          · rfl
          (try simp only [Act.put, List.setIfInBounds_toArray, List.set_cons_succ, List.set_cons_zero])
          apply walked_cons
          · intro wS hS
            have HS := Lib.hid hS
            clear hS
            go_wp2
            exact ⟨rfl, rfl, HS.out⟩
          · rfl
          (try simp only [Act.put, List.setIfInBounds_toArray, List.set_cons_succ, List.set_cons_zero])
          apply walked_cons
          · intro wS hS
            have HS := Lib.hid hS
            clear hS
            go_wp2
            exact ⟨rfl, rfl, HS.out⟩
          · rfl
          (try simp only [Act.put, List.setIfInBounds_toArray, List.set_cons_succ, List.set_cons_zero])
          apply walked_cons
          · intro wS hS
            have HS := Lib.hid hS
            clear hS
            go_wp2
            exact ⟨rfl, rfl, HS.out⟩
          · rfl
          (try simp only [Act.put, List.setIfInBounds_toArray, List.set_cons_succ, List.set_cons_zero])
          apply walked_cons
          · intro wS hS
            have HS := Lib.hid hS
            clear hS
            go_wp2
            exact ⟨rfl, rfl, HS.out⟩
          · rfl
          (try simp only [Act.put, List.setIfInBounds_toArray, List.set_cons_succ, List.set_cons_zero])
          apply walked_cons
          · intro wS hS
            have HS := Lib.hid hS
            clear hS
            go_wp2
            exact ⟨rfl, rfl, HS.out⟩
          · rfl
          (try simp only [Act.put, List.setIfInBounds_toArray, List.set_cons_succ, List.set_cons_zero])
          apply walked_cons
          · intro wS hS
            have HS := Lib.hid hS
            clear hS
            go_wp2
            exact ⟨rfl, rfl, HS.out⟩
          · rfl
          (try simp only [Act.put, List.setIfInBounds_toArray, List.set_cons_succ, List.set_cons_zero])
          apply walked_cons
          · intro wS hS
            have hc := fs_count hS (j : Int)
            rw [HV9.out.1] at hc
            clear hS
            go_wp2_with fail
            (with_reducible refine hc.mono ?_)
            rintro e y9 ⟨rfl, hY⟩
            have HY := Lib.hid hY
            clear hc hY
            go_wp2
            exact ⟨rfl, rfl, HY.out⟩
          · rfl
          (try simp only [Act.put, List.setIfInBounds_toArray, List.set_cons_succ, List.set_cons_zero])
          apply walked_cons
          · intro wS hS
            have HS := Lib.hid hS
            clear hS
            go_wp2
            exact ⟨rfl, rfl, HS.out⟩
          · rfl
          (try simp only [Act.put, List.setIfInBounds_toArray, List.set_cons_succ, List.set_cons_zero])
          apply walked_cons
          · intro wS hS
            have HS := Lib.hid hS
            clear hS
            go_wp2
            exact ⟨rfl, rfl, HS.out⟩
          · rfl
          (try simp only [Act.put, List.setIfInBounds_toArray, List.set_cons_succ, List.set_cons_zero])
          apply walked_cons
          · intro wS hS
            have HS := Lib.hid hS
            clear hS
            go_wp2
            exact ⟨rfl, rfl, HS.out⟩
          · rfl
          (try simp only [Act.put, List.setIfInBounds_toArray, List.set_cons_succ, List.set_cons_zero])
          apply walked_cons
          · intro wS hS
            have HS := Lib.hid hS
            have cS := fs_cell hS HV9.out.2
            clear hS
            go_wp2
            exact ⟨rfl, rfl, HS.out⟩
          · rfl
          (try simp only [Act.put, List.setIfInBounds_toArray, List.set_cons_succ, List.set_cons_zero])
          apply walked_cons
          · intro wS hS
            have HS := Lib.hid hS
            clear hS
            go_wp2
            exact ⟨rfl, rfl, HS.out⟩
          · rfl
          (try simp only [Act.put, List.setIfInBounds_toArray, List.set_cons_succ, List.set_cons_zero])
          apply walked_cons
          · intro wS hS
            have HS := Lib.hid hS
            clear hS
            go_wp2
            exact ⟨rfl, rfl, HS.out⟩
          · rfl
          (try simp only [Act.put, List.setIfInBounds_toArray, List.set_cons_succ, List.set_cons_zero])
          apply walked_nil
          intro wS hS
          have HE := Lib.hid hS
          clear hS
          go_wp2
          refine Met.intro (hJ2 _ _ (by kernel_rfl) ?_ ?_)
          · exact ⟨i + 1, u, cs9, pg9, ops9, Sp9, C9, by have := HI.out.1; omega, by show Value.int .i64 ((i : Int) + 1) = _; simp, rfl, HE.out, HG9.out⟩
          · have := HI.out.1
            rw [H11.out]; show 80 - (intOf (Value.int .i64 ((i : Int) + 1))).toNat < 80 - (intOf (Value.int .i64 (i : Int))).toNat
            simp [intOf]; omega
end
end Go.Proofs.Ytnmccihgiphmjaa
