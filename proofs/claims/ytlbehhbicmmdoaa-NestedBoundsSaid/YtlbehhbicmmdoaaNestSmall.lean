/- NestSmall: several texts in one, for a claim's limit of files: each part says what it is. -/
import Derived.Test.YtlbehhbicmmdoaaDescsArg
import Derived.Test.YtlbehhbicmmdoaaNestAll
import Derived.Test.YtlbehhbicmmdoaaMemAll
import Derived.Test.YtlbehhbicmmdoaaFrame
import Derived.Test.YtlbehhbicmmdoaaTables
import Derived.Test.YtlbehhbicmmdoaaFreeAll

/- The edits of layer 14's world. -/
namespace Go.Proofs.Ytlbehhbicmmdoaa
set_option linter.unusedVariables false
set_option linter.unusedSimpArgs false
open Go.ChangeShapes Go.WideShapes Go.Deep Go.RowKit Go.Joins

/-- An edit. -/
structure Ed where
  wh : Int
  ix : Int
  d : D6
  raw : Bool
  w : Nat
def Ed.cells (e : Ed) : List Value := [.int .i64 e.wh, .int .i64 e.ix, .int .i64 e.d.k, .int .u64 (e.d.a : Nat), .bool e.d.r, .bool e.d.w, .bool e.d.x, .int .i64 e.d.s, .bool e.raw, .int .u64 (e.w : Nat)]
/-- A slice of edits reads as l. -/
def Edits (w : World) (ad : Option Addr) (l : List Ed) : Prop :=
  ∀ (i : Nat) (e : Ed), l[i]? = some e → e.d.a < 18446744073709551616 ∧ e.w < 18446744073709551616 ∧ ∃ b off, ad = some ⟨b, off, none⟩ ∧ b < w.heap.size ∧ ∀ (c : Nat) (v : Value), e.cells[c]? = some v → w.cell? ⟨b, off + i * 10 + c, none⟩ = some v
theorem edits_old {w x : World} {ad : Option Addr} {l : List Ed} (h : Edits w ad l) (ho : Old w x) : Edits x ad l := by
  intro i y hy
  obtain ⟨h1, h2, b, off, e, hb, hc⟩ := h i y hy
  exact ⟨h1, h2, b, off, e, Nat.lt_of_lt_of_le hb ho.size, fun c v hv => by rw [ho.cell (p := ⟨b, off + i * 10 + c, none⟩) hb]; exact hc c v hv⟩
end Go.Proofs.Ytlbehhbicmmdoaa
/- The argument []Edit of the statements of layer 14. -/
namespace Go.Proofs.Ytlbehhbicmmdoaa
set_option linter.unusedVariables false
set_option linter.unusedSimpArgs false
open Go.ChangeShapes Go.WideShapes Go.Deep Go.RowKit Go.Joins

section
variable {H : Type} {enc : TypeId × Value → H} {P : Program} {w : World}
theorem list6 {α : Type} {l : List α} (h : l.length = 6) : ∃ c0 c1 c2 c3 c4 c5, l = [c0, c1, c2, c3, c4, c5] := by
  match l, h with
  | [c0, c1, c2, c3, c4, c5], _ => exact ⟨c0, c1, c2, c3, c4, c5, rfl⟩
theorem desc_of {t : TypeId} {f0 f1 f2 f3 g0 g1 g2 : Field} {spare : Nat → Bool} {held : Bool} {n : Nat} {cs : List Value} {y : DataW H × List MemPlace} (hlen : cs.length = 6) (he : P.underlying t = some (.struct #[f0, f1, f2, f3]))
    (o0 : f0.offset = 0) (o1 : f1.offset = 1) (o2 : f2.offset = 2) (o3 : f3.offset = 5) (c0 : P.cellsOf f0.type = 1) (c1 : P.cellsOf f1.type = 1) (c2 : P.cellsOf f2.type = 3) (c3 : P.cellsOf f3.type = 1)
    (h0 : P.underlying f0.type = some (.int .i64)) (h1 : P.underlying f1.type = some (.int .u64)) (h2 : P.underlying f2.type = some (.struct #[g0, g1, g2])) (h3 : P.underlying f3.type = some (.int .i64))
    (hone : oneCellFields P #[g0, g1, g2] = true) (hb0 : P.underlying g0.type = some .bool) (hb1 : P.underlying g1.type = some .bool) (hb2 : P.underlying g2.type = some .bool)
    (h : DataW.trod enc P w 0 spare held n t cs = some y) : ∃ d : D6, cs = d.cells ∧ d.a < 18446744073709551616 := by
  obtain ⟨w0, w1, w2, w3, w4, w5, rfl⟩ := list6 hlen
  obtain ⟨xs, k, hk, hxy, _, hxl, hff⟩ := DataW.trod_struct he h
  match xs, hxl with
  | [y0, y1, y2, y3], _ =>
    have t0 := hff 0 f0 rfl
    have t1 := hff 1 f1 rfl
    have t2 := hff 2 f2 rfl
    have t3 := hff 3 f3 rfl
    simp only [o0, o1, o2, o3, c0, c1, c2, c3] at t0 t1 t2 t3
    change DataW.trod enc P w 0 _ _ k f0.type [w0] = some y0 at t0
    change DataW.trod enc P w 0 _ _ k f1.type [w1] = some y1 at t1
    change DataW.trod enc P w 0 _ _ k f2.type [w2, w3, w4] = some y2 at t2
    change DataW.trod enc P w 0 _ _ k f3.type [w5] = some y3 at t3
    obtain ⟨n0, e0, _, r0⟩ := DataW.trod_int h0 t0
    obtain ⟨n1, e1, _, r1⟩ := DataW.trod_int h1 t1
    obtain ⟨n3, e3, _, r3⟩ := DataW.trod_int h3 t3
    obtain ⟨z0, z1, z2, n', hx', _, u0, u1, u2⟩ := trod_struct3 h2 t2
    obtain ⟨q0, j0⟩ := hone_of hone 0 g0 rfl
    obtain ⟨q1, j1⟩ := hone_of hone 1 g1 rfl
    obtain ⟨q2, j2⟩ := hone_of hone 2 g2 rfl
    simp only [q0, q1, q2, j0, j1, j2] at u0 u1 u2
    change DataW.trod enc P w 0 _ _ n' g0.type [w2] = some z0 at u0
    change DataW.trod enc P w 0 _ _ n' g1.type [w3] = some z1 at u1
    change DataW.trod enc P w 0 _ _ n' g2.type [w4] = some z2 at u2
    obtain ⟨b2, e2, _⟩ := DataW.trod_bool hb0 u0
    obtain ⟨b3, e4, _⟩ := DataW.trod_bool hb1 u1
    obtain ⟨b4, e5, _⟩ := DataW.trod_bool hb2 u2
    simp only [List.cons.injEq, and_true] at e0 e1 e2 e3 e4 e5
    subst e0 e1 e2 e3 e4 e5
    have hr1 := wf_w64 r1
    refine ⟨⟨n0, n1.toNat, b2, b3, b4, n3⟩, ?_, by show n1.toNat < _; omega⟩
    have en : ((n1.toNat : Nat) : Int) = n1 := by omega
    show _ = [Value.int .i64 n0, .int .u64 ((n1.toNat : Nat) : Int), .bool b2, .bool b3, .bool b4, .int .i64 n3]
    rw [en]
theorem open_edits {t0 e t : TypeId} {e0 e1 e2 e3 e4 f0 f1 f2 f3 g0 g1 g2 : Field} {v : Value} {d : DataW H} {p : List MemPlace} (ht : P.underlying t0 = some (.slice e)) (he : P.underlying e = some (.struct #[e0, e1, e2, e3, e4])) (ce : P.cellsOf e = 10)
    (q0 : e0.offset = 0) (q1 : e1.offset = 1) (q2 : e2.offset = 2) (q3 : e3.offset = 8) (q4 : e4.offset = 9) (k0 : P.cellsOf e0.type = 1) (k1 : P.cellsOf e1.type = 1) (k2 : P.cellsOf e2.type = 6) (k3 : P.cellsOf e3.type = 1) (k4 : P.cellsOf e4.type = 1) (et : e2.type = t)
    (i0 : P.underlying e0.type = some (.int .i64)) (i1 : P.underlying e1.type = some (.int .i64)) (i3 : P.underlying e3.type = some .bool) (i4 : P.underlying e4.type = some (.int .u64))
    (hs : P.underlying t = some (.struct #[f0, f1, f2, f3]))
    (o0 : f0.offset = 0) (o1 : f1.offset = 1) (o2 : f2.offset = 2) (o3 : f3.offset = 5) (c0 : P.cellsOf f0.type = 1) (c1 : P.cellsOf f1.type = 1) (c2 : P.cellsOf f2.type = 3) (c3 : P.cellsOf f3.type = 1)
    (h0 : P.underlying f0.type = some (.int .i64)) (h1 : P.underlying f1.type = some (.int .u64)) (h2 : P.underlying f2.type = some (.struct #[g0, g1, g2])) (h3 : P.underlying f3.type = some (.int .i64))
    (hone : oneCellFields P #[g0, g1, g2] = true) (hb0 : P.underlying g0.type = some .bool) (hb1 : P.underlying g1.type = some .bool) (hb2 : P.underlying g2.type = some .bool)
    (hv : ∃ a n c, v = .slice a n c) (h : DataW.Trod enc P w 0 (fun _ => true) true t0 v d p) :
    ∃ ad cap l, v = .slice ad l.length cap ∧ l.length ≤ maxLen ∧ Edits w ad l := by
  subst et
  obtain ⟨a0, len0, cap0, rfl⟩ := hv
  obtain ⟨fuel, hf⟩ := h
  rcases Go.Deep.open_slice ht hf with ⟨hcs, _⟩ | ⟨a, len, cap, m, n, D, Pl, hcs, _, hl, hm, hmm, _, hi⟩
  · simp [Value.cells] at hcs
    obtain ⟨rfl, rfl, rfl⟩ := hcs
    exact ⟨none, 0, [], rfl, Nat.zero_le _, fun i x hx => by simp at hx⟩
  · simp [Value.cells] at hcs
    obtain ⟨rfl, rfl, rfl⟩ := hcs
    have hlm : len0 ≤ m := by rw [hmm]; split <;> omega
    have hspot : len0 = 0 ∨ a.spot = none := by
      by_cases hz : len0 = 0
      · exact .inl hz
      · obtain ⟨cs', u1, u2⟩ := hi 0 (by omega)
        rw [ce] at u1
        obtain ⟨_, hlen, hcell⟩ := World.cells?_some u1
        have z0 := hcell 0 (by omega)
        rw [List.getElem?_eq_getElem (show 0 < cs'.length by omega)] at z0
        exact .inr (by simpa [Addr.add] using (cell_plain z0).1)
    obtain ⟨l, hll, hq⟩ := list_of (Q := fun i (x : Ed) => x.d.a < 18446744073709551616 ∧ x.w < 18446744073709551616 ∧ ∃ b off, (some a : Option Addr) = some ⟨b, off, none⟩ ∧ b < w.heap.size ∧ ∀ (c : Nat) (v : Value), x.cells[c]? = some v → w.cell? ⟨b, off + i * 10 + c, none⟩ = some v) len0 (fun i hil => by
      obtain ⟨cs', u1, u2⟩ := hi i (by omega)
      rw [ce] at u1
      obtain ⟨_, hlen, hcell⟩ := World.cells?_some u1
      obtain ⟨xs, k, hk, hxy, _, hxl, hff⟩ := DataW.trod_struct he u2
      match xs, hxl, cs', hlen with
      | [y0, y1, y2, y3, y4], _, [w0, w1, w2, w3, w4, w5, w6, w7, w8, w9], _ =>
        have t0 := hff 0 e0 rfl
        have t1 := hff 1 e1 rfl
        have t2 := hff 2 e2 rfl
        have t3 := hff 3 e3 rfl
        have t4 := hff 4 e4 rfl
        simp only [q0, q1, q2, q3, q4, k0, k1, k2, k3, k4] at t0 t1 t2 t3 t4
        change DataW.trod enc P w 0 _ _ k e0.type [w0] = some y0 at t0
        change DataW.trod enc P w 0 _ _ k e1.type [w1] = some y1 at t1
        change DataW.trod enc P w 0 _ _ k e2.type [w2, w3, w4, w5, w6, w7] = some y2 at t2
        change DataW.trod enc P w 0 _ _ k e3.type [w8] = some y3 at t3
        change DataW.trod enc P w 0 _ _ k e4.type [w9] = some y4 at t4
        obtain ⟨n0, z0, _, r0⟩ := DataW.trod_int i0 t0
        obtain ⟨n1, z1, _, r1⟩ := DataW.trod_int i1 t1
        obtain ⟨b3, z3, _⟩ := DataW.trod_bool i3 t3
        obtain ⟨n4, z4, _, r4⟩ := DataW.trod_int i4 t4
        obtain ⟨dd, hdd, hda⟩ := desc_of rfl hs o0 o1 o2 o3 c0 c1 c2 c3 h0 h1 h2 h3 hone hb0 hb1 hb2 t2
        simp only [List.cons.injEq, and_true] at z0 z1 z3 z4
        subst z0 z1 z3 z4
        have hr4 := wf_w64 r4
        have en : ((n4.toNat : Nat) : Int) = n4 := by omega
        have hcs : [Value.int .i64 n0, .int .i64 n1, w2, w3, w4, w5, w6, w7, .bool b3, .int .u64 n4] = (Ed.mk n0 n1 dd b3 n4.toNat).cells := by
          show _ = Value.int .i64 n0 :: .int .i64 n1 :: (dd.cells ++ [.bool b3, .int .u64 ((n4.toNat : Nat) : Int)])
          rw [← hdd, en]; rfl
        rw [hcs] at hcell
        refine ⟨⟨n0, n1, dd, b3, n4.toNat⟩, hda, by show n4.toNat < _; omega, ?_⟩
        obtain ⟨ab, ao, spot⟩ := a
        have z0 := hcell 0 (by omega)
        rw [add_add] at z0
        have hspot : spot = none := by
          rcases hspot with e | e
          · omega
          · exact e
        subst hspot
        refine ⟨ab, ao, rfl, ?_, fun c v hc => ?_⟩
        · rw [add_eq _ _ rfl] at z0; exact (cell_plain z0).2
        · have hc6 : c < 10 := (List.getElem?_eq_some_iff.1 hc).1
          have zc := hcell c (by omega)
          rw [add_add, add_eq _ _ rfl] at zc
          rw [show ao + i * 10 + c = ao + (i * 10 + c) by omega, zc]
          exact hc)
    exact ⟨some a, cap0, l, by rw [hll], by omega, fun i x hx => hq i x hx⟩
end
end Go.Proofs.Ytlbehhbicmmdoaa
/- Layer 14's world: its small functions, and what holds while it is made. -/
namespace Go.Proofs.Ytlbehhbicmmdoaa
set_option linter.unusedVariables false
set_option linter.unusedSimpArgs false
open Go.RowKit

theorem i64_mask511 (n : Int) : bits .and .i64 n 511 = n % 512 := by
  have h0 : (BitVec.ofInt 64 511).toNat = 2 ^ 9 - 1 := by decide
  have key : (BitVec.ofInt 64 n &&& BitVec.ofInt 64 511).toNat = (n % ((2 ^ 64 : Nat) : Int)).toNat % 2 ^ 9 := by
    rw [BitVec.toNat_and, BitVec.toNat_ofInt, h0, Nat.and_two_pow_sub_one_eq_mod]
  show IntKind.i64.wrap ((BitVec.ofInt 64 n &&& BitVec.ofInt 64 511).toNat : Nat) = n % 512
  rw [key, IntKind.wrap_i64]
  omega
def frN (p : Nat) : Nat := 8 + (p * 5 + 3) % 24
theorem frN_lt (p : Nat) : frN p < 32 := by unfold frN; omega
set_option maxRecDepth 100000 in
theorem frame14_calls (p : Nat) (hp : p ≤ 30) (w : World) : Calls Try.prog 40 #[.int .i64 (p : Nat)] w (RetB w (.int .i64 (frN p : Nat))) := by
  have h30 : (p : Int) ≤ 30 := by omega
  have e : 8 + ((p : Int) * 5 + 3).tmod 24 = ((frN p : Nat) : Int) := by
    rw [Int.tmod_eq_emod_of_nonneg (by omega)]
    unfold frN; omega
  obtain ⟨R, hR⟩ : ∃ R : Int, ((p : Int) * 5 + 3).tmod 24 = R := ⟨_, rfl⟩
  have hR2 : 0 ≤ R ∧ R ≤ 23 := by
    rw [← hR, Int.tmod_eq_emod_of_nonneg (by omega)]; omega
  rw [hR] at e
  have e1 : wrap64 (8 + R) = 8 + R := IntWalk.wrap64_in _ (by omega)
  rw [← e]
  clear e hp
  have hR3 := hR2.1
  have hR4 := hR2.2
  clear hR2
  go_enter Try.func40, Try.ntmps40
  go_wp2
  go_ret
  exact ⟨rfl, old_refl _⟩
set_option maxRecDepth 100000 in
theorem all14_calls (w : World) : Calls Try.prog 56 #[] w (RetB w (.agg #[.bool true, .bool true, .bool true])) := by
  have hb := new_block w (.cells #[.bool false, .bool false, .bool false] 46)
  go_enter Try.func56, Try.ntmps56
  go_wp2_with (refine wpList_store_whole rfl 46 _ _ rfl w.heap.size [Value.bool true, .bool true, .bool true] rfl rfl 46 _ hb (by kernel_rfl) rfl (by intro v hv; simp only [List.mem_cons, List.not_mem_nil, or_false] at hv; rcases hv with rfl | rfl | rfl <;> rfl) ?_)
  have h9 := putB_same (.cells #[.bool true, .bool true, .bool true] 46) (lt_of_block hb)
  obtain ⟨k9, -, -⟩ := of_block h9
  refine bodyPost_ret (by simp [results, Try.results56, go_sem, k9]; try rfl) rfl ?_
  exact ⟨rfl, old_put (old_alloc (old_refl w) _) _ (Nat.le_refl _)⟩
set_option maxHeartbeats 4000000 in
set_option maxRecDepth 100000 in
theorem word14_calls (st lv k : Int) (a : Nat) (r wr x : Bool) (s : Int) (w : World) : Calls Try.prog 43 #[.int .i64 st, .int .i64 lv, descV k a r wr x s] w (RetB w (.int .u64 (encW st lv k a r wr x s : Nat))) := by
  have hO := old_alloc (old_refl w) (.cells #[.int .i64 k, .int .u64 (a : Nat), .bool r, .bool wr, .bool x, .int .i64 s] 48)
  have hb := new_block w (.cells #[.int .i64 k, .int .u64 (a : Nat), .bool r, .bool wr, .bool x, .int .i64 s] 48)
  have hc := fun y => refEncode_calls st lv k a r wr x s y
  have HO := Lib.hid hO
  clear hO
  go_enter Try.func43, Try.ntmps43
  obtain ⟨k1, q1, z1⟩ := of_block hb
  generalize encW st lv k a r wr x s = E at *
  generalize checkC st lv k a r wr x s = C at *
  go_wp2_with ((go_at_call 44); (with_reducible refine (hc _).mono ?_); rintro e w1 ⟨rfl, hb1⟩)
  go_ret
  exact ⟨rfl, old_then HO.out hb1⟩
/-- A memory, the variable that names it, and blocks B of one's own; all that was there ahead is as it was. -/
def WorS (w0 : World) (mb p : Nat) (B : Nat → Prop) (wd : Nat → Nat) (N : Nat) (x : World) : Prop :=
  ∃ X : Nat → Prop, (∀ b, X b → b < x.heap.size) ∧ (∀ b, b < w0.heap.size → X b) ∧ X mb ∧ (∀ b, B b → X b) ∧ IsMemW x X p 40 wd N ∧ x.heap[mb]? = some (.cells #[.pointer (some ⟨p, 0, none⟩)] 61) ∧ Old w0 x
section
variable {w0 x y : World} {mb p N : Nat} {B B' : Nat → Prop} {wd : Nat → Nat}
theorem worS_old (h : WorS w0 mb p B wd N x) (ho : Old x y) : WorS w0 mb p B wd N y := by
  obtain ⟨X, h1, h2, h3, h4, h5, h6, h7⟩ := h
  exact ⟨X, fun b hb => Nat.lt_of_lt_of_le (h1 b hb) ho.size, h2, h3, h4, memW_old h5 ho, keep_old ho h6, old_then h7 ho⟩
theorem worS_le {M : Nat} (h : WorS w0 mb p B wd N x) (hM : N ≤ M) : WorS w0 mb p B wd M x := by
  obtain ⟨X, h1, h2, h3, h4, h5, h6, h7⟩ := h
  exact ⟨X, h1, h2, h3, h4, memW_le h5 hM, h6, h7⟩
theorem worS_less (h : WorS w0 mb p B wd N x) (hB : ∀ b, B' b → B b) : WorS w0 mb p B' wd N x := by
  obtain ⟨X, h1, h2, h3, h4, h5, h6, h7⟩ := h
  exact ⟨X, h1, h2, h3, fun b hb => h4 b (hB b hb), h5, h6, h7⟩
/-- New blocks become one's own. -/
theorem worS_new (h : WorS w0 mb p B wd N x) (ho : Old x y) (hB : ∀ b, B' b → B b ∨ (x.heap.size ≤ b ∧ b < y.heap.size)) : WorS w0 mb p B' wd N y := by
  obtain ⟨X, h1, h2, h3, h4, h5, h6, h7⟩ := h
  refine ⟨fun b => X b ∨ (x.heap.size ≤ b ∧ b < y.heap.size), ?_, fun b hb => .inl (h2 b hb), .inl h3, fun b hb => (hB b hb).imp (h4 b) id, memW_old (memW_more h5 (fun b hb => hb.imp id And.left)) ho, keep_old ho h6, old_then h7 ho⟩
  intro b hb
  rcases hb with hb | hb
  · exact Nat.lt_of_lt_of_le (h1 b hb) ho.size
  · exact hb.2
theorem worS_mb (h : WorS w0 mb p B wd N x) : x.heap[mb]? = some (.cells #[.pointer (some ⟨p, 0, none⟩)] 61) := by
  obtain ⟨X, h1, h2, h3, h4, h5, h6, h7⟩ := h
  exact h6
/-- What a put tells: one's own blocks are as they were. -/
def RetPut (w0 : World) (mb p : Nat) (B : Nat → Prop) (wd : Nat → Nat) (N : Nat) (x : World) (e : Ending) (y : World) : Prop :=
  e = .returned (.bool true) ∧ WorS w0 mb p B wd N y ∧ ∀ b, B b → y.heap[b]? = x.heap[b]?
set_option maxHeartbeats 4000000 in
set_option maxRecDepth 100000 in
theorem put14_calls (h : WorS w0 mb p B wd N x) (hN : N < 3999999990) (a v : Nat) (ha : okM 40 a = true) (ha64 : a < 18446744073709551616) (hv : v < 18446744073709551616) :
    Calls Try.prog 55 #[.int .u64 (a : Nat), .int .u64 (v : Nat), .pointer (some ⟨mb, 0, none⟩)] x (RetPut w0 mb p B (updW wd a v) (N + 1) x) := by
  obtain ⟨X, h1, h2, h3, h4, h5, h6, h7⟩ := h
  have hc := memW_write h5 h1 (by omega) a v ha64 hv ha
  obtain ⟨k1, q1, z1⟩ := of_block h6
  have H := Lib.hid (And.intro h1 (And.intro h2 (And.intro h3 (And.intro h4 (And.intro h6 h7)))))
  clear h1 h2 h3 h4 h5 h6 h7 ha ha64 hv hN
  go_enter Try.func55, Try.ntmps55
  go_wp2_with fail
  (with_reducible refine hc.mono ?_)
  rintro e y ⟨rfl, hm, ho⟩
  have HM := Lib.hid (And.intro hm ho)
  clear hc hm ho k1 q1 z1
  go_wp2
  go_ret
  obtain ⟨h1, h2, h3, h4, h6, h7⟩ := H.out
  obtain ⟨hm, ho⟩ := HM.out
  refine ⟨rfl, ⟨X, fun b hb => Nat.lt_of_lt_of_le (h1 b hb) ho.size, h2, h3, h4, hm, keep_only ho (fun f => f h3) h6, Only.to_below ((Only.of_below h7).step ho (fun b hb f => by
    have := h2 b
    exact absurd (this (by omega)) f))⟩, fun b hb => ?_⟩
  exact ho.block b (h1 b (h4 b hb)) (fun f => f (h4 b hb))
end
/-- A block of one's own is turned. -/
theorem worS_putB {w0 x : World} {mb p N : Nat} {B : Nat → Prop} {wd : Nat → Nat} (h : WorS w0 mb p B wd N x) {b : Nat} (hb : B b) (hm : b ≠ mb) (h0 : w0.heap.size ≤ b) (o : Obj) : WorS w0 mb p B wd N (putB x b o) := by
  obtain ⟨X, h1, h2, h3, h4, h5, h6, h7⟩ := h
  have ho : Only (fun c => c = b) x (putB x b o) := (Only.refl _ x).putB _ (fun _ => rfl)
  exact ⟨X, fun c hc => by rw [putB_size]; exact h1 c hc, h2, h3, h4, memW_only h5 ho (fun c hc e => by subst e; exact hc (h4 c hb)), keep_only ho (fun e => hm e.symm) h6, old_put h7 _ h0⟩
/-- A drawn statement with one call that turns the world. -/
def StageP (J : Nat) (M0 M1 : World → Prop) (l : Array Bool) (x : World) : Prop := bif l.getD J false then M1 x else M0 x
theorem stageP_start {J n : Nat} {M0 M1 : World → Prop} {x : World} (h : M0 x) : StageP J M0 M1 (Array.replicate n false) x := by
  have e : (Array.replicate n false).getD J false = false := by simp [Array.getElem?_replicate]; split <;> rfl
  unfold StageP; rw [e]; exact h
theorem stageP_other {J : Nat} {M0 M1 : World → Prop} {l : Array Bool} {x : World} (j : Nat) (hj : j ≠ J) (h : StageP J M0 M1 l x) : StageP J M0 M1 (l.setIfInBounds j true) x := by
  unfold StageP at h ⊢; rw [getD_set_ne false hj]; exact h
theorem stageP_quiet {J : Nat} {M0 M1 : World → Prop} {l : Array Bool} {x y : World} (j : Nat) (hj : j ≠ J) (h : StageP J M0 M1 l x) (h0 : M0 x → M0 y) (h1 : M1 x → M1 y) : StageP J M0 M1 (l.setIfInBounds j true) y := by
  unfold StageP at h ⊢; rw [getD_set_ne false hj]
  cases hb : l.getD J false with
  | false => rw [hb] at h; exact h0 h
  | true => rw [hb] at h; exact h1 h
theorem stageP_before {J : Nat} {M0 M1 : World → Prop} {l : Array Bool} {x : World} (hn : l.getD J false = false) (h : StageP J M0 M1 l x) : M0 x := by
  unfold StageP at h; rw [hn] at h; exact h
theorem stageP_behind {J : Nat} {M0 M1 : World → Prop} {l : Array Bool} {x : World} (hn : l.getD J false = true) (h : StageP J M0 M1 l x) : M1 x := by
  unfold StageP at h; rw [hn] at h; exact h
theorem stageP_done {J n : Nat} {M0 M1 : World → Prop} {l : Array Bool} {y : World} (hz : l.size = n) (hJ : J < n) (h : M1 y) : StageP J M0 M1 (l.setIfInBounds J true) y := by
  have e : (l.setIfInBounds J true).getD J false = true := by simp [hz, hJ]
  unfold StageP; rw [e]; exact h
theorem stageP_fact {J : Nat} {M0 M1 Φ : World → Prop} {l : Array Bool} {x : World} (h : StageP J M0 M1 l x) (h0 : M0 x → Φ x) (h1 : M1 x → Φ x) : Φ x := by
  unfold StageP at h
  cases hb : l.getD J false with
  | false => rw [hb] at h; exact h0 h
  | true => rw [hb] at h; exact h1 h
/-- The words of the world, step by step. -/
def wdA : Nat → Nat → Nat
  | 0 => fun _ => 0
  | i + 1 => updW (updW (wdA i) ((i + 1) * 4096) (encW 2 (i : Nat) 1 ((i + 2) * 4096) false false false 0)) (frN i * 4096) (encW 1 (i : Nat) 1 ((i + 1) * 4096) false false false 0)
def wdB : Nat → Nat → Nat
  | 0 => wdA 3
  | i + 1 => updW (wdB i) (16384 + i * 8) (encW 2 3 3 (frN i * 4096) true (decide (i % 5 ≠ 4)) (decide (i % 3 ≠ 2)) 0)
def wdC : Nat → Nat → Nat
  | 0 => wdB 24
  | i + 1 => updW (wdC i) (frN 3 * 4096 + i * 8) (encW 1 3 3 ((i + 4) * 4096) true (decide (i % 4 ≠ 3)) (decide (i % 7 ≠ 1)) 0)
end Go.Proofs.Ytlbehhbicmmdoaa
/- Masks of words, and the access that layer 14's statements draw. No function of the program stands here. -/
namespace Go.Proofs.Ytlbehhbicmmdoaa
set_option linter.unusedVariables false
set_option linter.unusedSimpArgs false
open Go.RowKit

theorem u64_mask48 (n : Nat) : bits .and .u64 (n : Int) 281474976710655 = ((n % 281474976710656 : Nat) : Int) := by
  have h0 : (BitVec.ofInt 64 281474976710655).toNat = 2 ^ 48 - 1 := by decide
  have key : (BitVec.ofInt 64 (n : Int) &&& BitVec.ofInt 64 281474976710655).toNat = ((n : Int) % ((2 ^ 64 : Nat) : Int)).toNat % 2 ^ 48 := by
    rw [BitVec.toNat_and, BitVec.toNat_ofInt, h0, Nat.and_two_pow_sub_one_eq_mod]
  show IntKind.u64.wrap ((BitVec.ofInt 64 (n : Int) &&& BitVec.ofInt 64 281474976710655).toNat : Nat) = _
  rw [key, IntKind.wrap_u64]
  omega
theorem u64_mask17 (n : Nat) : bits .and .u64 (n : Int) 131071 = ((n % 131072 : Nat) : Int) := by
  have h0 : (BitVec.ofInt 64 131071).toNat = 2 ^ 17 - 1 := by decide
  have key : (BitVec.ofInt 64 (n : Int) &&& BitVec.ofInt 64 131071).toNat = ((n : Int) % ((2 ^ 64 : Nat) : Int)).toNat % 2 ^ 17 := by
    rw [BitVec.toNat_and, BitVec.toNat_ofInt, h0, Nat.and_two_pow_sub_one_eq_mod]
  show IntKind.u64.wrap ((BitVec.ofInt 64 (n : Int) &&& BitVec.ofInt 64 131071).toNat : Nat) = _
  rw [key, IntKind.wrap_u64]
  omega
theorem u64_and_some (a b : Int) : ∃ n : Nat, n < 18446744073709551616 ∧ bits .and .u64 a b = (n : Int) := by
  obtain ⟨n, h0, h⟩ := u64_some (bits .and .u64 a b)
  have e : IntKind.u64.wrap (bits .and .u64 a b) = bits .and .u64 a b := by show IntKind.u64.wrap (IntKind.u64.wrap _) = IntKind.u64.wrap _; simp only [IntKind.wrap_u64]; omega
  rw [e] at h
  exact ⟨n, h0, by injection h⟩
/-- The access that is drawn. -/
theorem access_of (ac : Int) : ∃ (M : Nat) (r : Int), bits .and .i64 ac 3 = (M : Int) ∧ M ≤ 3 ∧ (M : Int).tmod 3 = r ∧ (M : Int) % 3 = r ∧ (1 + r = 1 ∨ 1 + r = 2 ∨ 1 + r = 3) ∧ 0 ≤ r ∧ r ≤ 2 := by
  refine ⟨(ac % 4).toNat, ((ac % 4).toNat : Int) % 3, by rw [i64_mask3]; omega, by omega, Int.tmod_eq_emod_of_nonneg (by omega), rfl, by omega, by omega, by omega⟩
end Go.Proofs.Ytlbehhbicmmdoaa
