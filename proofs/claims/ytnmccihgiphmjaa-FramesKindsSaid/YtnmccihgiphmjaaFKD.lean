/- Texts on the way to the statement FramesKinds, several in one file: each part says what it is. -/
import Derived.Test.YtnmccihgiphmjaaFKA
import Derived.Test.YtnmccihgiphmjaaFKB
import Derived.Test.YtnmccihgiphmjaaFKC
import Derived.Deep.OwnRows
namespace Go.Proofs.Ytnmccihgiphmjaa
set_option linter.unusedVariables false
set_option linter.unusedSimpArgs false
open Go.ChangeShapes Go.WideShapes Go.Deep Go.RowKit Go.Joins
def boolsC (l : List Bool) : Array Value := (l.map .bool).toArray
theorem boolsC_get (l : List Bool) (i : Nat) : (boolsC l)[i]? = (l[i]?).map .bool := by simp [boolsC]
theorem boolsC_set (l : List Bool) (i : Nat) (v : Bool) : (boolsC l).setIfInBounds i (.bool v) = boolsC (l.set i v) := by simp [boolsC, List.setIfInBounds_toArray, List.map_set]
theorem madeC_bools (n : Nat) : madeCells #[.bool false] n = boolsC (List.replicate n false) := by
  apply Array.ext
  · rw [size_madeCells]; simp [boolsC]
  · intro i h1 h2
    simp [madeCells, boolsC, Nat.mod_one]
theorem makeBools (n : Nat) (h : n ≤ 4096) (w : World) : (Instr.makeSlice 22 (.int .i64 (n : Int)) (.int .i64 (n : Int))).run Try.prog w = .ok (.slice (some ⟨w.heap.size, 0, none⟩) n n) (w.alloc (.cells (boolsC (List.replicate n false)) 4)) := by
  rw [← madeC_bools]
  exact run_make_row' 22 4 (.bool false) 1 Try.underlying22 bool_info2 rfl .i64 .i64 n (by omega) (by omega) w
section
variable {H : Type} {enc : TypeId × Value → H} {P : Program} {w : World}
theorem open_boolsarg {r : Reach} {b0 : Nat} {t e : TypeId} {v : Value} {d : DataW H} {p : List MemPlace} (ht : P.underlying t = some (.slice e)) (he : P.underlying e = some .bool) (hc : P.cellsOf e = 1)
    (hv : Value.okWide P w r b0 t v) (h : DataW.Trod enc P w 0 (fun _ => true) true t v d p) :
    ∃ ad cap l, v = .slice ad l.length cap ∧ Bools w ad cap l := by
  obtain ⟨a0, len0, cap0, rfl⟩ := okWide_slice ht hv
  obtain ⟨fuel, hf⟩ := h
  rcases Go.Deep.open_slice ht hf with ⟨hcs, _⟩ | ⟨a, len, cap, m, n, D, Pl, hcs, _, hl, hm, hmm, _, hi⟩
  · simp [Value.cells] at hcs
    obtain ⟨rfl, rfl, rfl⟩ := hcs
    exact ⟨none, 0, [], rfl, Nat.le_refl _, Nat.zero_le _, fun _ => rfl, fun k x hx => by simp at hx⟩
  · simp [Value.cells] at hcs
    obtain ⟨rfl, rfl, rfl⟩ := hcs
    simp only [if_true] at hmm
    subst hmm
    have hcell : ∀ i, i < m → ∃ y, w.cell? (a.add i) = some (.bool y) := by
      intro i hi'
      obtain ⟨cs', h1, h2⟩ := hi i hi'
      rw [hc, Nat.mul_one] at h1
      obtain ⟨y, q0, _⟩ := DataW.trod_bool he h2
      subst q0
      exact ⟨y, cell_of_cells?_one h1⟩
    have hspot : len0 = 0 ∨ a.spot = none := by
      by_cases h0 : len0 = 0
      · exact .inl h0
      · obtain ⟨y, hy⟩ := hcell 0 (by omega)
        exact .inr (by simpa [Addr.add] using (cell_plain hy).1)
    obtain ⟨l, hll, hq⟩ := list_of (Q := fun i (x : Bool) => ∃ bb off, (some a : Option Addr) = some ⟨bb, off, none⟩ ∧ bb < w.heap.size ∧ w.cell? ⟨bb, off + i, none⟩ = some (.bool x)) len0 (fun i hil => by
      obtain ⟨y, hy⟩ := hcell i (by omega)
      rcases hspot with h0 | hs
      · omega
      · obtain ⟨ab, ao, spot⟩ := a
        simp only at hs
        subst hs
        rw [add_eq _ _ rfl] at hy
        exact ⟨y, ab, ao, rfl, (cell_plain hy).2, hy⟩)
    exact ⟨some a, m, l, by rw [hll], by omega, hm, (fun e => by cases e), fun k x hx => hq k x hx⟩
end
end Go.Proofs.Ytnmccihgiphmjaa
namespace Go.Proofs.Ytnmccihgiphmjaa
set_option linter.unusedVariables false
set_option linter.unusedSimpArgs false
open Go.RowKit
theorem i64_mask63 (n : Int) : bits .and .i64 n 63 = n % 64 := by
  have h0 : (BitVec.ofInt 64 63).toNat = 2 ^ 6 - 1 := by decide
  have key : (BitVec.ofInt 64 n &&& BitVec.ofInt 64 63).toNat = (n % ((2 ^ 64 : Nat) : Int)).toNat % 2 ^ 6 := by
    rw [BitVec.toNat_and, BitVec.toNat_ofInt, h0, Nat.and_two_pow_sub_one_eq_mod]
  show IntKind.i64.wrap ((BitVec.ofInt 64 n &&& BitVec.ofInt 64 63).toNat : Nat) = n % 64
  rw [key, IntKind.wrap_i64]
  omega
end Go.Proofs.Ytnmccihgiphmjaa
namespace Go.Proofs.Ytnmccihgiphmjaa
set_option linter.unusedVariables false
set_option linter.unusedSimpArgs false
open Go.RowKit
/-- Between two asks: so many frames are free, and none of them was told. -/
def KindS (w : World) (fr p bt bp m g n pool tt pp : Nat) (seen : List Bool) (x : World) : Prop := ∃ pg St Sp C,
  Stands w [Pts g (boolsC seen) 4, SepL (frL fr p bt bp m n pool pg 0 St Sp C)] x ∧ pool ≤ n ∧ (∀ x, St x = true → 0 ≤ x ∧ x < pool) ∧ (∀ x, Sp x = true → pool ≤ x ∧ x < n) ∧ cntS St pool = tt ∧ cntS Sp n = pp ∧ seen.length = n ∧
    ∀ x, St x = true ∨ Sp x = true → seen[x]? = some false
section
variable {w x y : World} {fr p bt bp m g n pool tt pp : Nat} {seen : List Bool}
theorem kind_old (h : KindS w fr p bt bp m g n pool tt pp seen x) : Old w x := by obtain ⟨pg, St, Sp, C, h, -⟩ := h; exact stands_old h
theorem kind_then (h : KindS w fr p bt bp m g n pool tt pp seen x) (ho : Old x y) : KindS w fr p bt bp m g n pool tt pp seen y := by
  obtain ⟨pg, St, Sp, C, h, h'⟩ := h; exact ⟨pg, St, Sp, C, stands_then h ho, h'⟩
theorem kind_heap (h : KindS w fr p bt bp m g n pool tt pp seen x) : x.heap[g]? = some (.cells (boolsC seen) 4) := by obtain ⟨pg, St, Sp, C, h, -⟩ := h; exact pts_get h (i := 0) rfl
theorem kind_cell (h : KindS w fr p bt bp m g n pool tt pp seen x) {j : Nat} {b : Bool} (hb : seen[j]? = some b) : x.cell? ⟨g, j, none⟩ = some (.bool b) := by
  rw [cell_of (kind_heap h), boolsC_get, hb]; rfl
theorem kind_frozen (h : KindS w fr p bt bp m g n pool tt pp seen x) (j : Nat) : x.frozen? ⟨g, j, none⟩ = false := frozen_of (kind_heap h) _
theorem kind_len (h : KindS w fr p bt bp m g n pool tt pp seen x) : seen.length = n := by obtain ⟨pg, St, Sp, C, -, -, -, -, -, -, h, -⟩ := h; exact h
theorem kind_le (h : KindS w fr p bt bp m g n pool tt pp seen x) : tt ≤ pool ∧ pp ≤ n := by
  obtain ⟨pg, St, Sp, C, -, -, -, -, h1, h2, -, -⟩ := h; rw [← h1, ← h2]; exact ⟨cntS_le _ _, cntS_le _ _⟩
theorem kind_free (h : KindS w fr p bt bp m g n pool tt pp seen x) : Calls Try.prog 11 #[.pointer (some ⟨fr, 0, none⟩)] x (fun e y => e = .returned (.tuple #[.int .i64 (pp : Nat), .int .i64 (tt : Nat)]) ∧ KindS w fr p bt bp m g n pool tt pp seen y) := by
  have h0 := h
  obtain ⟨pg, St, Sp, C, hs, -, -, -, h1, h2, -, -⟩ := h
  obtain ⟨O1, q1, -⟩ := stands_get hs (i := 1) rfl
  have := frFree_calls q1
  rw [h1, h2] at this
  refine this.mono ?_
  rintro e y ⟨rfl, ho⟩
  exact ⟨rfl, kind_then h0 ho⟩
theorem kind_table_none (h : KindS w fr p bt bp m g n pool 0 pp seen x) : Calls Try.prog 9 #[.pointer (some ⟨fr, 0, none⟩)] x (fun e y => e = .returned (.tuple #[.int .i64 0, .int .i64 11]) ∧ KindS w fr p bt bp m g n pool 0 pp seen y) := by
  have h0 := h
  obtain ⟨pg, St, Sp, C, hs, -, h3, -, h1, h2, -, -⟩ := h
  obtain ⟨O1, q1, -⟩ := stands_get hs (i := 1) rfl
  refine (frTable_none q1 ((none_iff (fun x hx => (h3 x hx).2)).2 h1)).mono ?_
  rintro e y ⟨rfl, ho⟩
  exact ⟨rfl, kind_then h0 ho⟩
theorem kind_page_none (h : KindS w fr p bt bp m g n pool tt 0 seen x) : Calls Try.prog 10 #[.pointer (some ⟨fr, 0, none⟩)] x (fun e y => e = .returned (.tuple #[.int .i64 0, .int .i64 10]) ∧ KindS w fr p bt bp m g n pool tt 0 seen y) := by
  have h0 := h
  obtain ⟨pg, St, Sp, C, hs, -, -, h3, h1, h2, -, -⟩ := h
  obtain ⟨O1, q1, -⟩ := stands_get hs (i := 1) rfl
  refine (frPage_none q1 ((none_iff (fun x hx => (h3 x hx).2)).2 h2)).mono ?_
  rintro e y ⟨rfl, ho⟩
  exact ⟨rfl, kind_then h0 ho⟩
theorem finds_some {S : Nat → Bool} {M u : Nat} (hM : ∀ x, S x = true → x < M) (h : cntS S M = u + 1) : ∃ k f, Finds S M 0 k f ∧ S f = true ∧ f < M ∧ cntS (lessS S f 1) M = u := by
  rcases finds_or S M 0 with ⟨k, f, hf⟩ | h'
  · have hfr := hf.free (Nat.zero_le _)
    have h1 := hfr f (Nat.le_refl _) (by simp)
    have h2 := cntS_lessIn (S := S) (f := f) (n := 1) (M := M) (fun x h1 h2 => hfr x h1 (by simpa using h2)) (by have := hM f h1; omega)
    exact ⟨k, f, hf, h1, hM f h1, by omega⟩
  · rw [none_iff hM] at h'; omega
theorem kind_set {f : Nat} {St Sp : Nat → Bool} {pg : Int → Option (List Nat)} {C : Int → Nat} (h : Stands w [Pts g (boolsC seen) 4, SepL (frL fr p bt bp m n pool pg 0 St Sp C)] x) :
    Stands w [Pts g (boolsC (seen.set f true)) 4, SepL (frL fr p bt bp m n pool pg 0 St Sp C)] (x.setCell ⟨g, f, none⟩ (.bool true)) := by
  have := pts_put h (i := 0) rfl f (.bool true)
  rw [boolsC_set] at this
  exact this
theorem kind_table {u : Nat} (h : KindS w fr p bt bp m g n pool (u + 1) pp seen x) : ∃ f, f < pool ∧ f < n ∧ seen[f]? = some false ∧ Calls Try.prog 9 #[.pointer (some ⟨fr, 0, none⟩)] x (fun e y => e = .returned (.tuple #[.int .i64 (f : Nat), .int .i64 0]) ∧ KindS w fr p bt bp m g n pool u pp seen y ∧
      KindS w fr p bt bp m g n pool u pp (seen.set f true) (y.setCell ⟨g, f, none⟩ (.bool true))) := by
  obtain ⟨pg, St, Sp, C, hs, hpn, hSt, hSp, h1, h2, h3, h4⟩ := h
  obtain ⟨k, f, hf, hSf, hfM, hcu⟩ := finds_some (fun x hx => (hSt x hx).2) h1
  refine ⟨f, hfM, by omega, h4 f (.inl hSf), ?_⟩
  refine (turns_stands (frTable hpn hSt hf) (sep_loc locs_fr) hs (i := 1) rfl).mono ?_
  rintro e y ⟨rfl, hy⟩
  have hl : ∀ x, lessS St f 1 x = true → St x = true ∧ x ≠ f := fun x hx => by have := lessS_iff.1 hx; exact ⟨this.1, by omega⟩
  refine ⟨rfl, ⟨_, _, _, _, hy, hpn, fun x hx => hSt x (hl x hx).1, hSp, hcu, h2, h3, fun x hx => h4 x (hx.imp (fun hx => (hl x hx).1) id)⟩, ⟨_, _, _, _, kind_set hy, hpn, fun x hx => hSt x (hl x hx).1, hSp, hcu, h2, by rw [List.length_set]; exact h3, fun x hx => ?_⟩⟩
  have hne : f ≠ x := by
    rcases hx with hx | hx
    · exact fun e => (hl x hx).2 e.symm
    · have := hSp x hx; omega
  rw [List.getElem?_set_ne hne]
  exact h4 x (hx.imp (fun hx => (hl x hx).1) id)
theorem kind_page {u : Nat} (h : KindS w fr p bt bp m g n pool tt (u + 1) seen x) : ∃ f, pool ≤ f ∧ f < n ∧ seen[f]? = some false ∧ Calls Try.prog 10 #[.pointer (some ⟨fr, 0, none⟩)] x (fun e y => e = .returned (.tuple #[.int .i64 (f : Nat), .int .i64 0]) ∧ KindS w fr p bt bp m g n pool tt u seen y ∧
      KindS w fr p bt bp m g n pool tt u (seen.set f true) (y.setCell ⟨g, f, none⟩ (.bool true))) := by
  obtain ⟨pg, St, Sp, C, hs, hpn, hSt, hSp, h1, h2, h3, h4⟩ := h
  obtain ⟨k, f, hf, hSf, hfM, hcu⟩ := finds_some (fun x hx => (hSp x hx).2) h2
  refine ⟨f, (hSp f hSf).1, hfM, h4 f (.inr hSf), ?_⟩
  refine (turns_stands (frPage hpn hSp hf) (sep_loc locs_fr) hs (i := 1) rfl).mono ?_
  rintro e y ⟨rfl, hy⟩
  have hl : ∀ x, lessS Sp f 1 x = true → Sp x = true ∧ x ≠ f := fun x hx => by have := lessS_iff.1 hx; exact ⟨this.1, by omega⟩
  refine ⟨rfl, ⟨_, _, _, _, hy, hpn, hSt, fun x hx => hSp x (hl x hx).1, h1, hcu, h3, fun x hx => h4 x (hx.imp id (fun hx => (hl x hx).1))⟩, ⟨_, _, _, _, kind_set hy, hpn, hSt, fun x hx => hSp x (hl x hx).1, h1, hcu, by rw [List.length_set]; exact h3, fun x hx => ?_⟩⟩
  have hne : f ≠ x := by
    rcases hx with hx | hx
    · have := hSt x hx; have := (hSp f hSf).1; omega
    · exact fun e => (hl x hx).2 e.symm
  rw [List.getElem?_set_ne hne]
  exact h4 x (hx.imp id (fun hx => (hl x hx).1))
set_option maxHeartbeats 16000000 in
set_option maxRecDepth 100000 in
theorem framesKinds_walk (x0 : Int) (_ : (Lit.int .i64 x0).wf = true) (x1 : Int) (_ : (Lit.int .i64 x1).wf = true) (ad : Option Addr) (l : List Bool) (c : Nat) (w : World) (hB : Bools w ad c l) :
    Calls Try.prog 3 #[.int .i64 x0, .int .i64 x1, .slice ad l.length c] w (RetB w (.bool true)) := by
  have hm := i64_mask63 x0
  have hm2 := i64_mask63 x1
  have b1 : 0 ≤ x0 % 64 := by omega
  have b2 : x0 % 64 < 64 := by omega
  have b3 : 0 ≤ x1 % 64 := by omega
  have b4 : x1 % 64 < 64 := by omega
  have b5 : 0 ≤ x0 % 64 % 57 := by omega
  have b6 : x0 % 64 % 57 < 57 := by omega
  obtain ⟨n, hN⟩ : ∃ n : Nat, 4 + x0 % 64 % 57 = n := ⟨(4 + x0 % 64 % 57).toNat, by omega⟩
  have hn1 : 4 ≤ n := by omega
  have hn2 : n ≤ 60 := by omega
  have n1 : (4 : Int) ≤ n := by omega
  have n2 : (n : Int) ≤ 60 := by omega
  have b7 := Int.emod_nonneg (x1 % 64) (b := (n : Int) - 1) (by omega)
  have b8 := Int.emod_lt_of_pos (x1 % 64) (b := (n : Int) - 1) (by omega)
  have hmod : (x1 % 64).tmod ((n : Int) - 1) = x1 % 64 % ((n : Int) - 1) := Int.tmod_eq_emod_of_nonneg b3
  obtain ⟨pool, hP⟩ : ∃ pool : Nat, 1 + x1 % 64 % ((n : Int) - 1) = pool := ⟨(1 + x1 % 64 % ((n : Int) - 1)).toNat, by omega⟩
  have hp1 : 1 ≤ pool := by omega
  have hp2 : pool < n := by omega
  have p1 : (1 : Int) ≤ pool := by omega
  have p2 : (pool : Int) < n := by omega
  obtain ⟨Q, hQ⟩ : ∃ Q : Nat, (n : Int) - pool = Q := ⟨n - pool, by omega⟩
  have hQn : Q = n - pool := by omega
  have hl63 : l.length ≤ 9223372036854775807 := Nat.le_trans hB.1 hB.2.1
  have hmk := makeBools n (by omega)
  have hc : Calls Try.prog 7 #[.int .i64 (n : Nat)] w _ := physNew_stands n w (by omega) (by omega)
  have HB := Lib.hid hB
  clear hB
  go_enter Try.func3, Try.ntmps3
  go_wp2_with fail
  (with_reducible refine hc.mono ?_)
  rintro e y1 ⟨p, rfl, h1⟩
  have hc2 := frNew_stands (pool := pool) h1 ⟨hp1, by omega, hp2⟩ (by omega)
  clear hc h1 hm hm2 b1 b2 b3 b4 b5 b6 b7 b8 hmod hP hN
  go_wp2_with fail
  (with_reducible refine hc2.mono ?_)
  rintro e y2 ⟨fr, bt, bp, m, rfl, h2⟩
  obtain ⟨g, hg⟩ : ∃ g, y2.heap.size = g := ⟨_, rfl⟩
  have hK0 : KindS w fr p bt bp m g n pool pool Q (List.replicate n false) (y2.alloc (.cells (boolsC (List.replicate n false)) 4)) := by
    refine ⟨_, _, _, _, by rw [← hg]; exact stands_pts h2 _ _, by omega, fun x hx => allS_iff.1 hx, fun x hx => allS_iff.1 hx, ?_, ?_, by simp, fun x hx => ?_⟩
    · rw [cntS_all (by omega) (by omega)]; omega
    · rw [cntS_all (by omega) (by omega)]; omega
    · have hx' : x < n := by
        rcases hx with hx | hx
        · have := allS_iff.1 hx; omega
        · exact (allS_iff.1 hx).2
      rw [List.getElem?_replicate, if_pos hx']
  have HK0 := Lib.hid hK0
  clear hc2 h2 hK0
  go_wp2
  (try rw [hg])
  refine wp_loopF [false, false, false, false, false, false, true, false, false, false, false, true, true, false, true, true, true, true, true, true, false, false, false, false, false, false, false, false, false, false, false, false, false, false, false, false, false, false, false, false, false, false, false, false, false, false, false, false, false, false, false, false, false, false, false, false, false, false, false, true, true, true, true, true, true, true, true, true, true, true, true, true, true, true, true, true, true, true, true, true, true, true, true, true, true, true, true, true, true, true, true, true, true, true, true, true, true, true, true, true, true, true, true, true, true, true, true, true, true, true, true, true, true, true, true, true, true, true, true, true, true, true, true, true, true, true, true, true, true, true, true, true, true, true, true, true, true, true, true, true, true] (fun f2 wx => ∃ (i tt pp : Nat) (seen : List Bool), i ≤ 80 ∧ f2 14 = .int .i64 (i : Nat) ∧ f2 11 = .int .i64 (tt : Nat) ∧ f2 12 = .int .i64 (pp : Nat) ∧ KindS w fr p bt bp m g n pool tt pp seen wx) (fun f2 => 80 - (intOf (f2 14)).toNat) ?start1 ?round1
  case start1 =>
    have hk := HK0.out
    rw [hQn] at hk
    exact ⟨0, pool, n - pool, _, by omega, rfl, rfl, rfl, hk⟩
  case round1 =>
    clear HK0 hmk hg hQ hQn
    intro f2 wr hrel J2 K2 hJ2 hM2
    dsimp only [mergeA, mergeL, Nat.reduceAdd]
    obtain ⟨i, tt, pp, seen, hi, h14, h11, h12, hK⟩ := hrel
    rw [h14]
    have H14 := Lib.hid h14
    clear h14
    have hend : (¬ i < l.length ∨ (i < l.length ∧ ¬ i < 80)) ∨ (i < l.length ∧ i < 80) := by omega
    rcases hend with hend | ⟨hl, h80⟩
    · have ht := fun x => framesTold_calls x
      have HO := Lib.hid (kind_old hK)
      clear hK HB
      rcases hend with hl | ⟨hl, h80⟩
      · have i1 : ¬ (i : Int) < (l.length : Int) := by omega
        clear hl
        go_wp2_with fail
        (with_reducible refine (ht _).mono ?_)
        rintro e y9 ⟨rfl, ho9⟩
        have HO9 := Lib.hid ho9
        clear ho9 ht
        go_wp2
        go_ret
        exact ⟨rfl, old_then HO.out HO9.out⟩
      · have i1 : (i : Int) < (l.length : Int) := by omega
        have i2 : ¬ (i : Int) < 80 := by omega
        clear hl h80
        go_wp2_with fail
        (with_reducible refine (ht _).mono ?_)
        rintro e y9 ⟨rfl, ho9⟩
        have HO9 := Lib.hid ho9
        clear ho9 ht
        go_wp2
        go_ret
        exact ⟨rfl, old_then HO.out HO9.out⟩
    · obtain ⟨b, hb⟩ : ∃ b, l[i]? = some b := ⟨_, List.getElem?_eq_getElem hl⟩
      obtain ⟨bb, off, rfl, -, -⟩ := HB.out.2.2.2 i b hb
      have HBc : Hid (∀ y, Old w y → y.cell? ⟨bb, off + i, none⟩ = some (.bool b)) := Lib.hid (fun y hy => by
        obtain ⟨b2, o2, e2, -, hc⟩ := (bools_old HB.out hy).2.2.2 i b hb
        cases e2; exact hc)
      have HB := HBc
      have hask := HB.out wr (kind_old hK)
      have i1 : (i : Int) < (l.length : Int) := by omega
      have i2 : (i : Int) < 80 := by omega
      clear hb HBc
      cases b with
      | true =>
        rcases tt with _ | u
        · rw [h11, h12]
          have H11 := Lib.hid (And.intro h11 h12)
          clear h11 h12
          have hc := kind_table_none hK
          go_wp2_with fail
          (with_reducible refine hc.mono ?_)
          rintro e y1 ⟨rfl, hK1⟩
          have hfr := kind_free hK1
          clear hc hK hK1 hask
          obtain ⟨cm, -⟩ : True ∧ True := ⟨trivial, trivial⟩
          go_wp2_with fail
          (with_reducible refine hfr.mono ?_)
          rintro e y2 ⟨rfl, hK2⟩
          have HK := Lib.hid hK2
          clear hfr hK2
          go_wp2
          refine Met.intro (hJ2 _ _ (by kernel_rfl) ?_ ?_)
          · exact ⟨i + 1, 0, pp, seen, by omega, by show Value.int .i64 ((i : Int) + 1) = _; simp, rfl, rfl, HK.out⟩
          · rw [H14.out]; show 80 - (intOf (Value.int .i64 ((i : Int) + 1))).toNat < 80 - (intOf (Value.int .i64 (i : Int))).toNat
            simp [intOf]; omega
        · have h11' : f2 11 = .int .i64 ((u : Int) + 1) := h11
          rw [h11', h12]
          have H11 := Lib.hid (And.intro h11 h12)
          clear h11 h12 h11'
          obtain ⟨f, hf1, hf2, hseen, hc⟩ := kind_table hK
          have k1 : (f : Int) < pool := by omega
          have k1n : decide (f < pool) = true := decide_eq_true (by omega)
          have k2 : ¬ (f : Int) < 0 := by omega
          have k3 : ¬ (n : Int) ≤ (f : Int) := by omega
          have k3n : decide (n ≤ f) = false := decide_eq_false (by omega)
          have k4 : (f : Int) < n := by omega
          have u0 : ¬ (u : Int) + 1 = 0 := by omega
          have u1 : ((u : Int) + 1 == 0) = false := by simp; omega
          have u2 : (u : Int) ≤ 4096 := by have := kind_le hK; omega
          go_wp2_with fail
          (with_reducible refine hc.mono ?_)
          rintro e y1 ⟨rfl, hK1, hK2⟩
          have cf := kind_cell hK1 hseen
          have ff := kind_frozen hK1 f
          have hcA := HB.out y1 (kind_old hK1)
          have HB2 := Lib.hid hK2
          have hsl := kind_len hK1
          clear hc hK hK1 hK2
          have ca := hcA
          clear hcA
          have hfr := kind_free HB2.out
          go_wp2_with fail
          (with_reducible refine hfr.mono ?_)
          rintro e y2 ⟨rfl, hK3⟩
          have HK := Lib.hid hK3
          clear hfr hK3 HB2 ca cf ff
          go_wp2
          refine Met.intro (hJ2 _ _ (by kernel_rfl) ?_ ?_)
          · exact ⟨i + 1, u, pp, seen.set f true, by omega, by show Value.int .i64 ((i : Int) + 1) = _; simp, rfl, rfl, HK.out⟩
          · rw [H14.out]; show 80 - (intOf (Value.int .i64 ((i : Int) + 1))).toNat < 80 - (intOf (Value.int .i64 (i : Int))).toNat
            simp [intOf]; omega
      | false =>
        rcases pp with _ | u
        · rw [h11, h12]
          have H11 := Lib.hid (And.intro h11 h12)
          clear h11 h12
          have hc := kind_page_none hK
          go_wp2_with fail
          (with_reducible refine hc.mono ?_)
          rintro e y1 ⟨rfl, hK1⟩
          have hfr := kind_free hK1
          clear hc hK hK1 hask
          obtain ⟨cm, -⟩ : True ∧ True := ⟨trivial, trivial⟩
          go_wp2_with fail
          (with_reducible refine hfr.mono ?_)
          rintro e y2 ⟨rfl, hK2⟩
          have HK := Lib.hid hK2
          clear hfr hK2
          go_wp2
          refine Met.intro (hJ2 _ _ (by kernel_rfl) ?_ ?_)
          · exact ⟨i + 1, tt, 0, seen, by omega, by show Value.int .i64 ((i : Int) + 1) = _; simp, rfl, rfl, HK.out⟩
          · rw [H14.out]; show 80 - (intOf (Value.int .i64 ((i : Int) + 1))).toNat < 80 - (intOf (Value.int .i64 (i : Int))).toNat
            simp [intOf]; omega
        · have h12' : f2 12 = .int .i64 ((u : Int) + 1) := h12
          rw [h11, h12']
          have H11 := Lib.hid (And.intro h11 h12)
          clear h11 h12 h12'
          obtain ⟨f, hf1, hf2, hseen, hc⟩ := kind_page hK
          have k1 : ¬ (f : Int) < pool := by omega
          have k1n : decide (f < pool) = false := decide_eq_false (by omega)
          have k2 : ¬ (f : Int) < 0 := by omega
          have k3 : ¬ (n : Int) ≤ (f : Int) := by omega
          have k3n : decide (n ≤ f) = false := decide_eq_false (by omega)
          have k4 : (f : Int) < n := by omega
          have u0 : ¬ (u : Int) + 1 = 0 := by omega
          have u1 : ((u : Int) + 1 == 0) = false := by simp; omega
          have u2 : (u : Int) ≤ 4096 := by have := kind_le hK; omega
          go_wp2_with fail
          (with_reducible refine hc.mono ?_)
          rintro e y1 ⟨rfl, hK1, hK2⟩
          have cf := kind_cell hK1 hseen
          have ff := kind_frozen hK1 f
          have hcA := HB.out y1 (kind_old hK1)
          have HB2 := Lib.hid hK2
          have hsl := kind_len hK1
          clear hc hK hK1 hK2
          have ca := hcA
          clear hcA
          have hfr := kind_free HB2.out
          go_wp2_with fail
          (with_reducible refine hfr.mono ?_)
          rintro e y2 ⟨rfl, hK3⟩
          have HK := Lib.hid hK3
          clear hfr hK3 HB2 ca cf ff
          go_wp2
          refine Met.intro (hJ2 _ _ (by kernel_rfl) ?_ ?_)
          · exact ⟨i + 1, tt, u, seen.set f true, by omega, by show Value.int .i64 ((i : Int) + 1) = _; simp, rfl, rfl, HK.out⟩
          · rw [H14.out]; show 80 - (intOf (Value.int .i64 ((i : Int) + 1))).toNat < 80 - (intOf (Value.int .i64 (i : Int))).toNat
            simp [intOf]; omega
end
end Go.Proofs.Ytnmccihgiphmjaa
