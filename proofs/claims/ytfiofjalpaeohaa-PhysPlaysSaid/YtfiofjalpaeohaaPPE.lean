/- Texts on the way to the statement PhysPlays, several in one file: each part says what it is. -/
import Derived.Test.YtfiofjalpaeohaaPPA
import Derived.Test.YtfiofjalpaeohaaPPD
namespace Go.Proofs.Ytfiofjalpaeohaa
set_option linter.unusedVariables false
set_option linter.unusedSimpArgs false
open Go.RowKit
section
variable {w x y : World} {p q n ops ops' lim gp cp g2 cap2 : Nat} {pg pg' : Int → Option (List Nat)} {A B : Asn} {L L0 : List Nat}
theorem st_pts4 {b : Nat} {C : Array Value} {t : TypeId} {l : List Asn} (h : ST w p q n pg ops pg' ops' lim (A :: B :: Pts b C t :: l) x) : x.heap[b]? = some (.cells C t) := pts_get (i := 4) h rfl
theorem st_pts2 {b : Nat} {C : Array Value} {t : TypeId} {l : List Asn} (h : ST w p q n pg ops pg' ops' lim (A :: Pts b C t :: l) x) : x.heap[b]? = some (.cells C t) := pts_get (i := 3) h rfl
theorem st_row2 {g c : Nat} {l : List Asn} (h : ST w p q n pg ops pg' ops' lim (RowA g c L :: l) x) : Row x 0 g c L := rowA_get (i := 2) h rfl
theorem row_first5 {g c B : Nat} {z : World} (h : Row z B g c (L ++ [165])) : Bytes z (some ⟨g, 0, none⟩) c L := by
  have := bytes_cut (row_bytes h) L.length
  rwa [List.take_left] at this
theorem conv_nil5 (w : World) : (convert 31 9 (.slice none 0 0)).run Try.prog w = .ok (.string (strOf [])) w := by kernel_rfl
theorem conv_any {w : World} {ad : Option Addr} {c : Nat} {L : List Nat} (h : Bytes w ad c L) : (convert 31 9 (.slice ad L.length c)).run Try.prog w = .ok (.string (strOf L)) w := by
  cases ad with
  | some a => exact conv_bytes h
  | none =>
    have h0 := h.2.2.1 rfl
    obtain rfl : L = [] := by
      cases L with
      | nil => rfl
      | cons x l => have := h.1; simp at this; omega
    subst h0
    exact conv_nil5 w
theorem st_row4 {g c : Nat} {l : List Asn} (h : ST w p q n pg ops pg' ops' lim (A :: RowA g c L :: l) x) : Row x 0 g c L := rowA_get (i := 3) h rfl
theorem st_begin (hO : Old w x) (hs : x.heap.size = w.heap.size + 2) (hm : ∀ X : Nat → Prop, (∀ b, X b → b < w.heap.size) → IsMem x X p n (fun _ => none) 0) (hO2 : Old x y) (hs2 : x.heap.size < y.heap.size) (hr : ∀ X : Nat → Prop, (∀ b, X b → b < x.heap.size) → IsR y X q n (fun _ => 0) 0 0) :
    ST w p q n (fun _ => none) 0 (fun _ => none) 0 0 [] y := by
  have h1 : Stands w [MemA p n (fun _ => none) 0] x := stands_new (stands_nil w) hO (loc_mem ..) (O1 := fun b => w.heap.size ≤ b ∧ b < x.heap.size)
    ⟨mem_more (hm (fun b => b < w.heap.size) fun b hb => hb) (fun b hb => by
      by_cases h : b < w.heap.size
      · exact .inl h
      · exact .inr (Nat.le_of_not_lt fun hl => hb ⟨by omega, hl⟩)), fun b hb => hb.2⟩ (fun b hb => hb.1)
  have h2 : Stands w [R5A q n (fun _ => 0) 0 0, MemA p n (fun _ => none) 0] y := stands_new h1 hO2 (loc_r5 ..) (O1 := fun b => x.heap.size ≤ b ∧ b < y.heap.size)
    ⟨isR_more (hr (fun b => b < x.heap.size) fun b hb => hb) (fun b hb => by
      by_cases h : b < x.heap.size
      · exact .inl h
      · exact .inr (Nat.le_of_not_lt fun hl => hb ⟨by omega, hl⟩)), fun b hb => hb.2⟩ (fun b hb => hb.1)
  unfold ST
  rw [bytes_zero_of]
  exact stands_perm (fun C hC => by simp only [List.mem_cons, List.not_mem_nil, or_false] at hC ⊢; exact hC.symm) (fun O w h => sep_swap h) h2
theorem st_memSet {f : FuncId} {k : Int} {a : Int} {pg1 : Int → Option (List Nat)} {P : List Nat} {ad : Option Addr} {c : Nat} {E : List Asn}
    (hc : ∀ O w ad c, MemA p n pg ops O w → Bytes w ad c P → Calls Try.prog f #[.pointer (some ⟨p, 0, none⟩), .int .i64 k, .slice ad P.length c] w (fun e y => e = .returned (.int .i64 a) ∧ ∃ O', MemA p n pg1 ops O' y ∧ (∀ b, O' b → O b ∨ w.heap.size ≤ b) ∧ Only O w y))
    (h : ST w p q n pg ops pg' ops' lim E x) (hB : Bytes x ad c P) : Calls Try.prog f #[.pointer (some ⟨p, 0, none⟩), .int .i64 k, .slice ad P.length c] x (fun e y => e = .returned (.int .i64 a) ∧ ST w p q n pg1 ops pg' ops' lim E y) := by
  have h' : Stands w _ x := h
  obtain ⟨O1, p1, -, p3⟩ := stands_turn (i := 0) h' rfl
  refine (hc O1 x ad c p1 hB).mono ?_
  rintro e y ⟨rfl, O', q1, q2, q3⟩
  exact ⟨rfl, p3 _ O' y (loc_mem ..) q1 q2 q3⟩
theorem st_refSet {f : FuncId} {k : Int} {a : Int} {pg1 : Int → Option (List Nat)} {P : List Nat} {ad : Option Addr} {c lim1 : Nat} {E : List Asn}
    (hc : ∀ O w ad c, R5A q n (bytesOf pg') ops' lim O w → Bytes w ad c P → Calls Try.prog f #[.pointer (some ⟨q, 0, none⟩), .int .i64 k, .slice ad P.length c] w (fun e y => e = .returned (.int .i64 a) ∧ ∃ O', R5A q n (bytesOf pg1) ops' lim1 O' y ∧ (∀ b, O' b → O b ∨ w.heap.size ≤ b) ∧ Only O w y))
    (h : ST w p q n pg ops pg' ops' lim E x) (hB : Bytes x ad c P) : Calls Try.prog f #[.pointer (some ⟨q, 0, none⟩), .int .i64 k, .slice ad P.length c] x (fun e y => e = .returned (.int .i64 a) ∧ ST w p q n pg ops pg1 ops' lim1 E y) := by
  have h' : Stands w _ x := h
  obtain ⟨O1, p1, -, p3⟩ := stands_turn (i := 1) h' rfl
  refine (hc O1 x ad c p1 hB).mono ?_
  rintro e y ⟨rfl, O', q1, q2, q3⟩
  exact ⟨rfl, p3 _ O' y (loc_r5 ..) q1 q2 q3⟩
end
set_option maxHeartbeats 32000000 in
set_option maxRecDepth 100000 in
theorem physPlays_walk (s : Int) (_ : (Lit.int .i64 s).wf = true) (ad : Option Addr) (l : List Op5) (cap : Nat) (a : Int) (_ : (Lit.int .i64 a).wf = true) (b : Int) (_ : (Lit.int .i64 b).wf = true) (w : World) (hl : l.length ≤ maxLen) (hD : Op5s w ad l) :
    Calls Try.prog 10 #[.int .i64 s, .slice ad l.length cap, .int .i64 a, .int .i64 b] w (RetB w (.bool true)) := by
  have hl63 : l.length ≤ 9223372036854775807 := hl
  have HTold := Lib.hid (fun x => told5_calls x)
  by_cases hs : 1 ≤ s ∧ s ≤ 1048576
  case neg =>
    have h1 := physNew_none s w hs
    have H2 := Lib.hid (fun w => r5new_none s w hs)
    clear hD hs
    go_enter Try.func10, Try.ntmps10
    go_wp2_with fail
    (with_reducible refine h1.mono ?_)
    rintro e x1 ⟨rfl, hO1⟩
    have HO1 := Lib.hid hO1
    have hc2 := H2.out x1
    clear h1 hO1 H2
    go_wp2_with fail
    (with_reducible refine hc2.mono ?_)
    rintro e x2 ⟨rfl, hO2⟩
    have HO2 := Lib.hid (old_then HO1.out hO2)
    have hc3 := HTold.out x2
    clear hc2 hO2
    go_wp2
    refine wp_loopF [false, false, false, false, false, false, false, false, true, false, false, false, false, true, true, true, true, true, true, true, true, true, true, true, true, true, true, true, true, false, false, false, false, false, false, false, false, false, false, false, false, false, false, false, false, false, false, false, false, true, true, true, true, true, true, true, true, true, true, true, true, true, true, true, true, true, true, true, true, true, true, true, true, true, true, true, true, true, true, true, true, true, true, true, true, true, true, true, true, true, true, true, true, true, true, true, true, true, true, true, true, true, true, true, true, true, true, true, true, true, true, true, true, true, true, true, true, true, true, true, true, true, true, true, true, true, true, true, true, true, true, true, true, true, true, true, true, true, true, true, true, true, true, true, true, true, true, true, true, true, true, true, true, true, true, true, true, true, true, true, true, true, true, true, true, true, true, true, true, true, true, true, true, true, true, true, true, true, true, true, true, true, true, true, true, true, true, true, true, true, true, true, true, true, true, true, true, true, true, true, true, true, true, true, true, true, true, true, true, true, true, true, true, true, true, true, true, true, true, true, true, true, true, true, true, true, true, true, true, true, true, true, true, true, true, true, true, true, true, true, true, true, true, true, true, true, true, true, true, true, true, true, true, true, true, true, true, true, true, true] (fun f wx => ∃ z : Int, f 13 = .int .i64 z ∧ z = 0 ∧ wx = x2) (fun f => 0) ?start0 ?round0
    case start0 => exact ⟨0, rfl, rfl, rfl⟩
    case round0 =>
      intro f2 wr hrel J2 K2 hJ2 hM2
      dsimp only [mergeA, mergeL, Nat.reduceAdd]
      obtain ⟨z, h11, rfl, rfl⟩ := hrel
      rw [h11]
      clear h11
      by_cases hl0 : l.length = 0
      · rw [hl0]
        clear hl0
        go_wp2_with fail
        (with_reducible refine hc3.mono ?_)
        rintro e x3 ⟨rfl, hO3⟩
        have HO3 := Lib.hid (old_then HO2.out hO3)
        clear hO3 hc3
        go_wp2
        go_ret
        exact ⟨rfl, HO3.out⟩
      · have hl1 : (0 : Int) < (l.length : Nat) := by omega
        clear hl0
        go_wp2_with fail
        (with_reducible refine hc3.mono ?_)
        rintro e x3 ⟨rfl, hO3⟩
        have HO3 := Lib.hid (old_then HO2.out hO3)
        clear hO3 hc3
        go_wp2
        go_ret
        exact ⟨rfl, HO3.out⟩
  case pos =>
  obtain ⟨n, rfl⟩ : ∃ n : Nat, s = n := ⟨s.toNat, by omega⟩
  have h1 := physNew_calls n w (by omega) (by omega)
  have H2 := Lib.hid (fun w => r5new_R n w (by omega) (by omega))
  have HD := Lib.hid hD
  clear hD hs
  go_enter Try.func10, Try.ntmps10
  go_wp2_with fail
  (with_reducible refine h1.mono ?_)
  rintro e x1 ⟨rfl, hO1, hs1, hm1⟩
  have HX := Lib.hid (And.intro hO1 (And.intro hs1 hm1))
  have hc2 := H2.out x1
  clear h1 hO1 hs1 hm1 H2
  generalize w.heap.size + 1 = p at *
  go_wp2_with fail
  (with_reducible refine hc2.mono ?_)
  rintro e x2 ⟨rfl, hO2, hs2, hr2⟩
  have HB := Lib.hid (st_begin HX.out.1 HX.out.2.1 HX.out.2.2 hO2 hs2 hr2)
  clear hc2 hO2 hs2 hr2 HX
  generalize x1.heap.size = q at *
  go_wp2
  refine wp_loopF [false, false, false, false, false, false, false, false, true, false, false, false, false, true, true, true, true, true, true, true, true, true, true, true, true, true, true, true, true, false, false, false, false, false, false, false, false, false, false, false, false, false, false, false, false, false, false, false, false, true, true, true, true, true, true, true, true, true, true, true, true, true, true, true, true, true, true, true, true, true, true, true, true, true, true, true, true, true, true, true, true, true, true, true, true, true, true, true, true, true, true, true, true, true, true, true, true, true, true, true, true, true, true, true, true, true, true, true, true, true, true, true, true, true, true, true, true, true, true, true, true, true, true, true, true, true, true, true, true, true, true, true, true, true, true, true, true, true, true, true, true, true, true, true, true, true, true, true, true, true, true, true, true, true, true, true, true, true, true, true, true, true, true, true, true, true, true, true, true, true, true, true, true, true, true, true, true, true, true, true, true, true, true, true, true, true, true, true, true, true, true, true, true, true, true, true, true, true, true, true, true, true, true, true, true, true, true, true, true, true, true, true, true, true, true, true, true, true, true, true, true, true, true, true, true, true, true, true, true, true, true, true, true, true, true, true, true, true, true, true, true, true, true, true, true, true, true, true, true, true, true, true, true, true, true, true, true, true, true, true] (fun f wx => ∃ (i : Nat) (pg : Int → Option (List Nat)) (ops : Nat), i ≤ l.length ∧ i ≤ 40 ∧ ops ≤ i ∧ f 13 = .int .i64 (i : Nat) ∧ ST w p q n pg ops pg ops (4096 * i) [] wx) (fun f => 40 - (intOf (f 13)).toNat) ?start1 ?round1
  case start1 => exact ⟨0, _, 0, by omega, by omega, by omega, rfl, HB.out⟩
  case round1 =>
  intro f2 wr hrel J2 K2 hJ2 hM2
  dsimp only [mergeA, mergeL, Nat.reduceAdd]
  clear HB
  obtain ⟨i, pg, ops, hi, hi40, hops, h13, hF⟩ := hrel
  rw [h13]
  have H13 := Lib.hid h13
  clear h13
  have HF := Lib.hid hF
  clear hF
  by_cases hil : i = l.length
  · have e1 : ¬ (i : Int) < l.length := by omega
    have hc3 := HTold.out wr
    clear hil hi hi40 hops
    go_wp2_with fail
    (with_reducible refine hc3.mono ?_)
    rintro e x3 ⟨rfl, hO3⟩
    have HO3 := Lib.hid (old_then (st_w HF.out) hO3)
    clear hO3 hc3
    go_wp2
    go_ret
    exact ⟨rfl, HO3.out⟩
  have e1 : (i : Int) < l.length := by omega
  by_cases h40 : i = 40
  · have e2 : ¬ (i : Int) < 40 := by omega
    have hc3 := HTold.out wr
    clear hil hi hi40 h40 hops
    go_wp2_with fail
    (with_reducible refine hc3.mono ?_)
    rintro e x3 ⟨rfl, hO3⟩
    have HO3 := Lib.hid (old_then (st_w HF.out) hO3)
    clear hO3 hc3
    go_wp2
    go_ret
    exact ⟨rfl, HO3.out⟩
  have e2 : (i : Int) < 40 := by omega
  have hlt : i < l.length := by omega
  have HLT := Lib.hid (And.intro hlt (And.intro (show i < 40 by omega) hops))
  obtain ⟨op, ho⟩ : ∃ op, l[i]? = some op := ⟨_, List.getElem?_eq_getElem hlt⟩
  obtain ⟨hokw, -⟩ := HD.out i op ho
  obtain ⟨hok, b0, off, rfl, hb0, hc⟩ := op5s_old HD.out (st_w HF.out) i op ho
  obtain ⟨okd, osz, ofr, oad, ov, otA, otC, ot, obA, obC, ob, oo⟩ := op
  obtain ⟨-, -, -, wad, wov, -, -⟩ := hok
  have hcl : ∀ (c : Nat) (v : Value), [Value.int .i64 okd, .int .i64 osz, .int .i64 ofr, .int .u64 (oad : Nat), .int .u64 (ov : Nat), .slice otA ot.length otC, .slice obA ob.length obC, .bool oo][c]? = some v → wr.cell? ⟨b0, off + i * 8 + c, none⟩ = some v := hc
  have HCL := Lib.hid hcl
  have HOK := Lib.hid hokw
  have HAV := Lib.hid (And.intro wad wov)
  clear hil hi hi40 h40 hlt ho hb0 hc hcl hokw hops wad wov
  go_upto_region 9 with (refine wpList_load_at rfl 97 _ rfl b0 (off + i * 8) rfl [Value.int .i64 okd, .int .i64 osz, .int .i64 ofr, .int .u64 (oad : Nat), .int .u64 (ov : Nat), .slice otA ot.length otC, .slice obA ob.length obC, .bool oo] _ HCL.out Try.underlying97 rfl (by kernel_rfl) ?_)
  have hF2 := st_new HF.out #[Value.int .i64 okd, .int .i64 osz, .int .i64 ofr, .int .u64 (oad : Nat), .int .u64 (ov : Nat), .slice otA ot.length otC, .slice obA ob.length obC, .bool oo] 97
  generalize wr.alloc (.cells #[Value.int .i64 okd, .int .i64 osz, .int .i64 ofr, .int .u64 (oad : Nat), .int .u64 (ov : Nat), .slice otA ot.length otC, .slice obA ob.length obC, .bool oo] 97) = wr2 at *
  generalize wr.heap.size = bo at *
  clear HF HCL
  have HF := Lib.hid hF2
  obtain ⟨k1, -, z1⟩ := of_block (st_pts hF2)
  have HLen := Lib.hid (st_len hF2)
  clear hF2
  obtain ⟨κ, hK, hK7⟩ := kind_mod7 okd
  have HK7 := Lib.hid hK7
  have HLim : Hid (4096 * i + 4096 ≤ 200000 ∧ ops ≤ 1000000) := Lib.hid (by have := HLT.out; omega)
  obtain ⟨lim, hlim⟩ : ∃ lim, 4096 * i = lim := ⟨_, rfl⟩
  rw [hlim] at HF HLim
  have HLE := Lib.hid hlim
  clear hK7 hlim
  go_upto_block 2 with (fail)
  refine wp_cutF [false, false, false, false, false, false, false, false, true, false, false, false, false, false, false, true, true, true, true, true, true, true, true, true, true, true, true, true, true, false, false, false, false, false, false, false, false, false, false, false, false, false, false, false, false, false, false, false, false, false, false, false, false, false, false, false, false, false, false, false, false, false, false, false, false, false, false, false, false, false, false, false, true, true, true, true, true, true, true, true, true, true, true, true, true, true, true, true, true, true, true, true, true, true, true, true, true, true, true, true, true, true, true, true, true, true, true, true, true, true, true, true, true, true, true, true, true, true, true, true, true, true, true, true, true, true, true, true, true, true, true, true, true, true, true, true, true, true, true, true, true, true, true, true, true, true, true, true, true, true, true, true, true, true, true, true, true, true, true, true, true, true, true, true, true, true, true, true, true, true, true, true, true, true, true, true, true, true, true, true, true, true, true, true, true, true, true, true, true, true, true, true, true, true, true, true, true, true, true, true, true, true, true, true, true, true, true, true, true, true, true, true, true, true, true, true, true] (fun f wx => ∃ (v : Int) (pg1 : Int → Option (List Nat)) (ops1 : Nat), f 15 = .int .i64 v ∧ f 16 = .int .i64 v ∧ ops1 ≤ ops + 1 ∧ ST w p q n pg1 ops1 pg1 ops1 (lim + 4096) [Pts bo #[Value.int .i64 okd, .int .i64 osz, .int .i64 ofr, .int .u64 (oad : Nat), .int .u64 (ov : Nat), .slice otA ot.length otC, .slice obA ob.length obC, .bool oo] 97] wx) ?rest3 ?first3
  case first3 =>
    intro J1 K1 hJ1 hM1
    have hk : κ = 0 ∨ κ = 1 ∨ κ = 2 ∨ κ = 3 ∨ κ = 4 ∨ κ = 5 ∨ κ = 6 := by have := HK7.out; omega
    rcases hk with rfl | rfl | rfl | rfl | rfl | rfl | rfl
    · obtain ⟨r, pg1, ops1, ho1, hP, hR⟩ := step5_write (p := p) (q := q) (n := n) (lim := lim) HLen.out oad HAV.out.1 osz ov HAV.out.2 HLim.out.2 (by have := HLim.out; omega)
      have HP := Lib.hid (fun x (hx : ST w p q n pg ops pg ops lim [Pts bo #[Value.int .i64 okd, .int .i64 osz, .int .i64 ofr, .int .u64 (oad : Nat), .int .u64 (ov : Nat), .slice otA ot.length otC, .slice obA ob.length obC, .bool oo] 97] x) => st_mem hP hx)
      have HR := Lib.hid (fun x (hx : ST w p q n pg1 ops1 pg ops lim [Pts bo #[Value.int .i64 okd, .int .i64 osz, .int .i64 ofr, .int .u64 (oad : Nat), .int .u64 (ov : Nat), .slice otA ot.length otC, .slice obA ob.length obC, .bool oo] 97] x) => st_ref hR hx)
      have HO1 := Lib.hid ho1
      clear hP hR ho1 k1 z1
      go_upto_region 22 with (fail)
      refine wp_region_met (S := TwoCalls 7 15 (ST w p q n pg ops pg ops lim [Pts bo #[Value.int .i64 okd, .int .i64 osz, .int .i64 ofr, .int .u64 (oad : Nat), .int .u64 (ov : Nat), .slice otA ot.length otC, .slice obA ob.length obC, .bool oo] 97]) (ST w p q n pg1 ops1 pg ops lim [Pts bo #[Value.int .i64 okd, .int .i64 osz, .int .i64 ofr, .int .u64 (oad : Nat), .int .u64 (ov : Nat), .slice otA ot.length otC, .slice obA ob.length obC, .bool oo] 97]) (ST w p q n pg1 ops1 pg1 ops1 (lim + 4096) [Pts bo #[Value.int .i64 okd, .int .i64 osz, .int .i64 ofr, .int .u64 (oad : Nat), .int .u64 (ov : Nat), .slice otA ot.length otC, .slice obA ob.length obC, .bool oo] 97])) 16 (by kernel_rfl) (by kernel_rfl) (by kernel_rfl) (by decide) (tc_start _ (st_old HF.out (old_drew (old_refl _)))) ?_
      apply walkedM_cons
      · intro l9 wS hz hn hm hS
        have HD := Lib.hid (tc_other 0 (by decide) (by decide) hS)
        clear hS hz hn hm
        go_wp2
        exact ⟨rfl, rfl, HD.out⟩
      · rfl
      (try simp only [Act.put, List.setIfInBounds_toArray, List.set_cons_succ, List.set_cons_zero])
      apply walkedM_cons
      · intro l9 wS hz hn hm hS
        have HD := Lib.hid (tc_other 1 (by decide) (by decide) hS)
        clear hS hz hn hm
        go_wp2
        exact ⟨rfl, rfl, HD.out⟩
      · rfl
      (try simp only [Act.put, List.setIfInBounds_toArray, List.set_cons_succ, List.set_cons_zero])
      apply walkedM_cons
      · intro l9 wS hz hn hm hS
        have HD := Lib.hid (tc_other 2 (by decide) (by decide) hS)
        obtain ⟨q1, -, -⟩ := of_block (tc_any (P := (fun x => x.heap[bo]? = some (.cells #[Value.int .i64 okd, .int .i64 osz, .int .i64 ofr, .int .u64 (oad : Nat), .int .u64 (ov : Nat), .slice otA ot.length otC, .slice obA ob.length obC, .bool oo] 97))) hS (fun h => st_pts h) (fun h => st_pts h) (fun h => st_pts h))
        clear hS hz hn hm
        go_wp2
        exact ⟨rfl, rfl, HD.out⟩
      · rfl
      (try simp only [Act.put, List.setIfInBounds_toArray, List.set_cons_succ, List.set_cons_zero])
      apply walkedM_cons
      · intro l9 wS hz hn hm hS
        have HD := Lib.hid (tc_other 3 (by decide) (by decide) hS)
        clear hS hz hn hm
        go_wp2
        exact ⟨rfl, rfl, HD.out⟩
      · rfl
      (try simp only [Act.put, List.setIfInBounds_toArray, List.set_cons_succ, List.set_cons_zero])
      apply walkedM_cons
      · intro l9 wS hz hn hm hS
        have HD := Lib.hid (tc_other 4 (by decide) (by decide) hS)
        obtain ⟨q1, -, -⟩ := of_block (tc_any (P := (fun x => x.heap[bo]? = some (.cells #[Value.int .i64 okd, .int .i64 osz, .int .i64 ofr, .int .u64 (oad : Nat), .int .u64 (ov : Nat), .slice otA ot.length otC, .slice obA ob.length obC, .bool oo] 97))) hS (fun h => st_pts h) (fun h => st_pts h) (fun h => st_pts h))
        clear hS hz hn hm
        go_wp2
        exact ⟨rfl, rfl, HD.out⟩
      · rfl
      (try simp only [Act.put, List.setIfInBounds_toArray, List.set_cons_succ, List.set_cons_zero])
      apply walkedM_cons
      · intro l9 wS hz hn hm hS
        have HD := Lib.hid (tc_other 5 (by decide) (by decide) hS)
        clear hS hz hn hm
        go_wp2
        exact ⟨rfl, rfl, HD.out⟩
      · rfl
      (try simp only [Act.put, List.setIfInBounds_toArray, List.set_cons_succ, List.set_cons_zero])
      apply walkedM_cons
      · intro l9 wS hz hn hm hS
        have HD := Lib.hid (tc_other 6 (by decide) (by decide) hS)
        obtain ⟨q1, -, -⟩ := of_block (tc_any (P := (fun x => x.heap[bo]? = some (.cells #[Value.int .i64 okd, .int .i64 osz, .int .i64 ofr, .int .u64 (oad : Nat), .int .u64 (ov : Nat), .slice otA ot.length otC, .slice obA ob.length obC, .bool oo] 97))) hS (fun h => st_pts h) (fun h => st_pts h) (fun h => st_pts h))
        clear hS hz hn hm
        go_wp2
        exact ⟨rfl, rfl, HD.out⟩
      · rfl
      (try simp only [Act.put, List.setIfInBounds_toArray, List.set_cons_succ, List.set_cons_zero])
      apply walkedM_cons
      · intro l9 wS hz hn hm hS
        obtain ⟨hA, hnext⟩ := tc_first (by decide) (by rw [hz]; decide) hn hS
        have hc := HP.out wS hA
        have HN := Lib.hid hnext
        clear hS hA hnext hz hn hm
        go_wp2_with fail
        (with_reducible refine hc.mono ?_)
        rintro e y9 ⟨rfl, hB'⟩
        have HD := Lib.hid (HN.out _ hB')
        clear hc hB' HN
        go_wp2
        exact ⟨rfl, rfl, HD.out⟩
      · rfl
      (try simp only [Act.put, List.setIfInBounds_toArray, List.set_cons_succ, List.set_cons_zero])
      apply walkedM_cons
      · intro l9 wS hz hn hm hS
        have HD := Lib.hid (tc_other 8 (by decide) (by decide) hS)
        clear hS hz hn hm
        go_wp2
        exact ⟨rfl, rfl, HD.out⟩
      · rfl
      (try simp only [Act.put, List.setIfInBounds_toArray, List.set_cons_succ, List.set_cons_zero])
      apply walkedM_cons
      · intro l9 wS hz hn hm hS
        have HD := Lib.hid (tc_other 9 (by decide) (by decide) hS)
        clear hS hz hn hm
        go_wp2
        exact ⟨rfl, rfl, HD.out⟩
      · rfl
      (try simp only [Act.put, List.setIfInBounds_toArray, List.set_cons_succ, List.set_cons_zero])
      apply walkedM_cons
      · intro l9 wS hz hn hm hS
        have HD := Lib.hid (tc_other 10 (by decide) (by decide) hS)
        obtain ⟨q1, -, -⟩ := of_block (tc_any (P := (fun x => x.heap[bo]? = some (.cells #[Value.int .i64 okd, .int .i64 osz, .int .i64 ofr, .int .u64 (oad : Nat), .int .u64 (ov : Nat), .slice otA ot.length otC, .slice obA ob.length obC, .bool oo] 97))) hS (fun h => st_pts h) (fun h => st_pts h) (fun h => st_pts h))
        clear hS hz hn hm
        go_wp2
        exact ⟨rfl, rfl, HD.out⟩
      · rfl
      (try simp only [Act.put, List.setIfInBounds_toArray, List.set_cons_succ, List.set_cons_zero])
      apply walkedM_cons
      · intro l9 wS hz hn hm hS
        have HD := Lib.hid (tc_other 11 (by decide) (by decide) hS)
        clear hS hz hn hm
        go_wp2
        exact ⟨rfl, rfl, HD.out⟩
      · rfl
      (try simp only [Act.put, List.setIfInBounds_toArray, List.set_cons_succ, List.set_cons_zero])
      apply walkedM_cons
      · intro l9 wS hz hn hm hS
        have HD := Lib.hid (tc_other 12 (by decide) (by decide) hS)
        obtain ⟨q1, -, -⟩ := of_block (tc_any (P := (fun x => x.heap[bo]? = some (.cells #[Value.int .i64 okd, .int .i64 osz, .int .i64 ofr, .int .u64 (oad : Nat), .int .u64 (ov : Nat), .slice otA ot.length otC, .slice obA ob.length obC, .bool oo] 97))) hS (fun h => st_pts h) (fun h => st_pts h) (fun h => st_pts h))
        clear hS hz hn hm
        go_wp2
        exact ⟨rfl, rfl, HD.out⟩
      · rfl
      (try simp only [Act.put, List.setIfInBounds_toArray, List.set_cons_succ, List.set_cons_zero])
      apply walkedM_cons
      · intro l9 wS hz hn hm hS
        have HD := Lib.hid (tc_other 13 (by decide) (by decide) hS)
        clear hS hz hn hm
        go_wp2
        exact ⟨rfl, rfl, HD.out⟩
      · rfl
      (try simp only [Act.put, List.setIfInBounds_toArray, List.set_cons_succ, List.set_cons_zero])
      apply walkedM_cons
      · intro l9 wS hz hn hm hS
        have HD := Lib.hid (tc_other 14 (by decide) (by decide) hS)
        obtain ⟨q1, -, -⟩ := of_block (tc_any (P := (fun x => x.heap[bo]? = some (.cells #[Value.int .i64 okd, .int .i64 osz, .int .i64 ofr, .int .u64 (oad : Nat), .int .u64 (ov : Nat), .slice otA ot.length otC, .slice obA ob.length obC, .bool oo] 97))) hS (fun h => st_pts h) (fun h => st_pts h) (fun h => st_pts h))
        clear hS hz hn hm
        go_wp2
        exact ⟨rfl, rfl, HD.out⟩
      · rfl
      (try simp only [Act.put, List.setIfInBounds_toArray, List.set_cons_succ, List.set_cons_zero])
      apply walkedM_cons
      · intro l9 wS hz hn hm hS
        obtain ⟨hA, hnext⟩ := tc_second (by decide) (by rw [hz]; decide) (hm _ rfl ⟨7, .chain⟩ (by simp) rfl) hn hS
        have hc := HR.out wS hA
        have HN := Lib.hid hnext
        clear hS hA hnext hz hn hm
        go_wp2_with fail
        (with_reducible refine hc.mono ?_)
        rintro e y9 ⟨rfl, hB'⟩
        have HD := Lib.hid (HN.out _ hB')
        clear hc hB' HN
        go_wp2
        exact ⟨rfl, rfl, HD.out⟩
      · rfl
      (try simp only [Act.put, List.setIfInBounds_toArray, List.set_cons_succ, List.set_cons_zero])
      apply walkedM_nil
      intro l9 z hz hall hS
      have HE := Lib.hid (tc_end (hall 15 (by decide)) hS)
      clear hS hall hz l9
      show wpList _ _ _ [_, _] _ _
      clear HP HR
      go_wp2
      refine Met.intro (hJ1 _ _ (by kernel_rfl) ?_)
      exact ⟨r, pg1, ops1, rfl, rfl, HO1.out, HE.out⟩
    · obtain ⟨r, pg1, ops1, ho1, hP, hR⟩ := step5_write (p := p) (q := q) (n := n) (lim := lim) HLen.out oad HAV.out.1 osz ov HAV.out.2 HLim.out.2 (by have := HLim.out; omega)
      have HP := Lib.hid (fun x (hx : ST w p q n pg ops pg ops lim [Pts bo #[Value.int .i64 okd, .int .i64 osz, .int .i64 ofr, .int .u64 (oad : Nat), .int .u64 (ov : Nat), .slice otA ot.length otC, .slice obA ob.length obC, .bool oo] 97] x) => st_mem hP hx)
      have HR := Lib.hid (fun x (hx : ST w p q n pg1 ops1 pg ops lim [Pts bo #[Value.int .i64 okd, .int .i64 osz, .int .i64 ofr, .int .u64 (oad : Nat), .int .u64 (ov : Nat), .slice otA ot.length otC, .slice obA ob.length obC, .bool oo] 97] x) => st_ref hR hx)
      have HO1 := Lib.hid ho1
      clear hP hR ho1 k1 z1
      go_upto_region 22 with (fail)
      refine wp_region_met (S := TwoCalls 7 15 (ST w p q n pg ops pg ops lim [Pts bo #[Value.int .i64 okd, .int .i64 osz, .int .i64 ofr, .int .u64 (oad : Nat), .int .u64 (ov : Nat), .slice otA ot.length otC, .slice obA ob.length obC, .bool oo] 97]) (ST w p q n pg1 ops1 pg ops lim [Pts bo #[Value.int .i64 okd, .int .i64 osz, .int .i64 ofr, .int .u64 (oad : Nat), .int .u64 (ov : Nat), .slice otA ot.length otC, .slice obA ob.length obC, .bool oo] 97]) (ST w p q n pg1 ops1 pg1 ops1 (lim + 4096) [Pts bo #[Value.int .i64 okd, .int .i64 osz, .int .i64 ofr, .int .u64 (oad : Nat), .int .u64 (ov : Nat), .slice otA ot.length otC, .slice obA ob.length obC, .bool oo] 97])) 16 (by kernel_rfl) (by kernel_rfl) (by kernel_rfl) (by decide) (tc_start _ (st_old HF.out (old_drew (old_refl _)))) ?_
      apply walkedM_cons
      · intro l9 wS hz hn hm hS
        have HD := Lib.hid (tc_other 0 (by decide) (by decide) hS)
        clear hS hz hn hm
        go_wp2
        exact ⟨rfl, rfl, HD.out⟩
      · rfl
      (try simp only [Act.put, List.setIfInBounds_toArray, List.set_cons_succ, List.set_cons_zero])
      apply walkedM_cons
      · intro l9 wS hz hn hm hS
        have HD := Lib.hid (tc_other 1 (by decide) (by decide) hS)
        clear hS hz hn hm
        go_wp2
        exact ⟨rfl, rfl, HD.out⟩
      · rfl
      (try simp only [Act.put, List.setIfInBounds_toArray, List.set_cons_succ, List.set_cons_zero])
      apply walkedM_cons
      · intro l9 wS hz hn hm hS
        have HD := Lib.hid (tc_other 2 (by decide) (by decide) hS)
        obtain ⟨q1, -, -⟩ := of_block (tc_any (P := (fun x => x.heap[bo]? = some (.cells #[Value.int .i64 okd, .int .i64 osz, .int .i64 ofr, .int .u64 (oad : Nat), .int .u64 (ov : Nat), .slice otA ot.length otC, .slice obA ob.length obC, .bool oo] 97))) hS (fun h => st_pts h) (fun h => st_pts h) (fun h => st_pts h))
        clear hS hz hn hm
        go_wp2
        exact ⟨rfl, rfl, HD.out⟩
      · rfl
      (try simp only [Act.put, List.setIfInBounds_toArray, List.set_cons_succ, List.set_cons_zero])
      apply walkedM_cons
      · intro l9 wS hz hn hm hS
        have HD := Lib.hid (tc_other 3 (by decide) (by decide) hS)
        clear hS hz hn hm
        go_wp2
        exact ⟨rfl, rfl, HD.out⟩
      · rfl
      (try simp only [Act.put, List.setIfInBounds_toArray, List.set_cons_succ, List.set_cons_zero])
      apply walkedM_cons
      · intro l9 wS hz hn hm hS
        have HD := Lib.hid (tc_other 4 (by decide) (by decide) hS)
        obtain ⟨q1, -, -⟩ := of_block (tc_any (P := (fun x => x.heap[bo]? = some (.cells #[Value.int .i64 okd, .int .i64 osz, .int .i64 ofr, .int .u64 (oad : Nat), .int .u64 (ov : Nat), .slice otA ot.length otC, .slice obA ob.length obC, .bool oo] 97))) hS (fun h => st_pts h) (fun h => st_pts h) (fun h => st_pts h))
        clear hS hz hn hm
        go_wp2
        exact ⟨rfl, rfl, HD.out⟩
      · rfl
      (try simp only [Act.put, List.setIfInBounds_toArray, List.set_cons_succ, List.set_cons_zero])
      apply walkedM_cons
      · intro l9 wS hz hn hm hS
        have HD := Lib.hid (tc_other 5 (by decide) (by decide) hS)
        clear hS hz hn hm
        go_wp2
        exact ⟨rfl, rfl, HD.out⟩
      · rfl
      (try simp only [Act.put, List.setIfInBounds_toArray, List.set_cons_succ, List.set_cons_zero])
      apply walkedM_cons
      · intro l9 wS hz hn hm hS
        have HD := Lib.hid (tc_other 6 (by decide) (by decide) hS)
        obtain ⟨q1, -, -⟩ := of_block (tc_any (P := (fun x => x.heap[bo]? = some (.cells #[Value.int .i64 okd, .int .i64 osz, .int .i64 ofr, .int .u64 (oad : Nat), .int .u64 (ov : Nat), .slice otA ot.length otC, .slice obA ob.length obC, .bool oo] 97))) hS (fun h => st_pts h) (fun h => st_pts h) (fun h => st_pts h))
        clear hS hz hn hm
        go_wp2
        exact ⟨rfl, rfl, HD.out⟩
      · rfl
      (try simp only [Act.put, List.setIfInBounds_toArray, List.set_cons_succ, List.set_cons_zero])
      apply walkedM_cons
      · intro l9 wS hz hn hm hS
        obtain ⟨hA, hnext⟩ := tc_first (by decide) (by rw [hz]; decide) hn hS
        have hc := HP.out wS hA
        have HN := Lib.hid hnext
        clear hS hA hnext hz hn hm
        go_wp2_with fail
        (with_reducible refine hc.mono ?_)
        rintro e y9 ⟨rfl, hB'⟩
        have HD := Lib.hid (HN.out _ hB')
        clear hc hB' HN
        go_wp2
        exact ⟨rfl, rfl, HD.out⟩
      · rfl
      (try simp only [Act.put, List.setIfInBounds_toArray, List.set_cons_succ, List.set_cons_zero])
      apply walkedM_cons
      · intro l9 wS hz hn hm hS
        have HD := Lib.hid (tc_other 8 (by decide) (by decide) hS)
        clear hS hz hn hm
        go_wp2
        exact ⟨rfl, rfl, HD.out⟩
      · rfl
      (try simp only [Act.put, List.setIfInBounds_toArray, List.set_cons_succ, List.set_cons_zero])
      apply walkedM_cons
      · intro l9 wS hz hn hm hS
        have HD := Lib.hid (tc_other 9 (by decide) (by decide) hS)
        clear hS hz hn hm
        go_wp2
        exact ⟨rfl, rfl, HD.out⟩
      · rfl
      (try simp only [Act.put, List.setIfInBounds_toArray, List.set_cons_succ, List.set_cons_zero])
      apply walkedM_cons
      · intro l9 wS hz hn hm hS
        have HD := Lib.hid (tc_other 10 (by decide) (by decide) hS)
        obtain ⟨q1, -, -⟩ := of_block (tc_any (P := (fun x => x.heap[bo]? = some (.cells #[Value.int .i64 okd, .int .i64 osz, .int .i64 ofr, .int .u64 (oad : Nat), .int .u64 (ov : Nat), .slice otA ot.length otC, .slice obA ob.length obC, .bool oo] 97))) hS (fun h => st_pts h) (fun h => st_pts h) (fun h => st_pts h))
        clear hS hz hn hm
        go_wp2
        exact ⟨rfl, rfl, HD.out⟩
      · rfl
      (try simp only [Act.put, List.setIfInBounds_toArray, List.set_cons_succ, List.set_cons_zero])
      apply walkedM_cons
      · intro l9 wS hz hn hm hS
        have HD := Lib.hid (tc_other 11 (by decide) (by decide) hS)
        clear hS hz hn hm
        go_wp2
        exact ⟨rfl, rfl, HD.out⟩
      · rfl
      (try simp only [Act.put, List.setIfInBounds_toArray, List.set_cons_succ, List.set_cons_zero])
      apply walkedM_cons
      · intro l9 wS hz hn hm hS
        have HD := Lib.hid (tc_other 12 (by decide) (by decide) hS)
        obtain ⟨q1, -, -⟩ := of_block (tc_any (P := (fun x => x.heap[bo]? = some (.cells #[Value.int .i64 okd, .int .i64 osz, .int .i64 ofr, .int .u64 (oad : Nat), .int .u64 (ov : Nat), .slice otA ot.length otC, .slice obA ob.length obC, .bool oo] 97))) hS (fun h => st_pts h) (fun h => st_pts h) (fun h => st_pts h))
        clear hS hz hn hm
        go_wp2
        exact ⟨rfl, rfl, HD.out⟩
      · rfl
      (try simp only [Act.put, List.setIfInBounds_toArray, List.set_cons_succ, List.set_cons_zero])
      apply walkedM_cons
      · intro l9 wS hz hn hm hS
        have HD := Lib.hid (tc_other 13 (by decide) (by decide) hS)
        clear hS hz hn hm
        go_wp2
        exact ⟨rfl, rfl, HD.out⟩
      · rfl
      (try simp only [Act.put, List.setIfInBounds_toArray, List.set_cons_succ, List.set_cons_zero])
      apply walkedM_cons
      · intro l9 wS hz hn hm hS
        have HD := Lib.hid (tc_other 14 (by decide) (by decide) hS)
        obtain ⟨q1, -, -⟩ := of_block (tc_any (P := (fun x => x.heap[bo]? = some (.cells #[Value.int .i64 okd, .int .i64 osz, .int .i64 ofr, .int .u64 (oad : Nat), .int .u64 (ov : Nat), .slice otA ot.length otC, .slice obA ob.length obC, .bool oo] 97))) hS (fun h => st_pts h) (fun h => st_pts h) (fun h => st_pts h))
        clear hS hz hn hm
        go_wp2
        exact ⟨rfl, rfl, HD.out⟩
      · rfl
      (try simp only [Act.put, List.setIfInBounds_toArray, List.set_cons_succ, List.set_cons_zero])
      apply walkedM_cons
      · intro l9 wS hz hn hm hS
        obtain ⟨hA, hnext⟩ := tc_second (by decide) (by rw [hz]; decide) (hm _ rfl ⟨7, .chain⟩ (by simp) rfl) hn hS
        have hc := HR.out wS hA
        have HN := Lib.hid hnext
        clear hS hA hnext hz hn hm
        go_wp2_with fail
        (with_reducible refine hc.mono ?_)
        rintro e y9 ⟨rfl, hB'⟩
        have HD := Lib.hid (HN.out _ hB')
        clear hc hB' HN
        go_wp2
        exact ⟨rfl, rfl, HD.out⟩
      · rfl
      (try simp only [Act.put, List.setIfInBounds_toArray, List.set_cons_succ, List.set_cons_zero])
      apply walkedM_nil
      intro l9 z hz hall hS
      have HE := Lib.hid (tc_end (hall 15 (by decide)) hS)
      clear hS hall hz l9
      show wpList _ _ _ [_, _] _ _
      clear HP HR
      go_wp2
      refine Met.intro (hJ1 _ _ (by kernel_rfl) ?_)
      exact ⟨r, pg1, ops1, rfl, rfl, HO1.out, HE.out⟩
    · obtain ⟨r, u, ops1, ho1, hP, hR⟩ := step5_read (p := p) (q := q) (n := n) (lim := lim) HLen.out oad HAV.out.1 osz HLim.out.2
      have hc := st_mem hP HF.out
      have HR := Lib.hid (fun x (hx : ST w p q n pg ops1 pg ops lim [Pts bo #[Value.int .i64 okd, .int .i64 osz, .int .i64 ofr, .int .u64 (oad : Nat), .int .u64 (ov : Nat), .slice otA ot.length otC, .slice obA ob.length obC, .bool oo] 97] x) => st_ref hR hx)
      have HO1 := Lib.hid ho1
      clear hP hR ho1
      go_wp2_with fail
      (with_reducible refine hc.mono ?_)
      rintro e y1 ⟨rfl, hS1⟩
      have hc2 := HR.out y1 hS1
      clear k1 z1 hc
      obtain ⟨k1, -, z1⟩ := of_block (st_pts hS1)
      clear hS1
      go_wp2_with fail
      (with_reducible refine hc2.mono ?_)
      rintro e y2 ⟨rfl, hS2⟩
      have HE := Lib.hid hS2
      clear hS2 hc2 k1 z1 HR
      go_wp2
      refine Met.intro (hJ1 _ _ (by kernel_rfl) ?_)
      exact ⟨r, pg, ops1, rfl, rfl, HO1.out, HE.out⟩
    · obtain ⟨r, u, ops1, ho1, hP, hR⟩ := step5_read (p := p) (q := q) (n := n) (lim := lim) HLen.out oad HAV.out.1 osz HLim.out.2
      have hc := st_mem hP HF.out
      have HR := Lib.hid (fun x (hx : ST w p q n pg ops1 pg ops lim [Pts bo #[Value.int .i64 okd, .int .i64 osz, .int .i64 ofr, .int .u64 (oad : Nat), .int .u64 (ov : Nat), .slice otA ot.length otC, .slice obA ob.length obC, .bool oo] 97] x) => st_ref hR hx)
      have HO1 := Lib.hid ho1
      clear hP hR ho1
      go_wp2_with fail
      (with_reducible refine hc.mono ?_)
      rintro e y1 ⟨rfl, hS1⟩
      have hc2 := HR.out y1 hS1
      clear k1 z1 hc
      obtain ⟨k1, -, z1⟩ := of_block (st_pts hS1)
      clear hS1
      go_wp2_with fail
      (with_reducible refine hc2.mono ?_)
      rintro e y2 ⟨rfl, hS2⟩
      have HE := Lib.hid hS2
      clear hS2 hc2 k1 z1 HR
      go_wp2
      refine Met.intro (hJ1 _ _ (by kernel_rfl) ?_)
      exact ⟨r, pg, ops1, rfl, rfl, HO1.out, HE.out⟩
    · have hok : (Op5.mk okd osz ofr oad ov otA otC ot obA obC ob oo).ok wr2 := op5_old HOK.out (st_w HF.out)
      obtain ⟨-, -, -, -, -, hOT, hOB⟩ := hok
      have hPg := page3_calls otA ot otC obA ob obC wr2 hOT hOB
      have HOB := Lib.hid hOB
      clear hOT hOB
      go_wp2_with fail
      (with_reducible refine hPg.mono ?_)
      rintro e y ⟨gp, cp, rfl, hrow, hO⟩
      have hE1 := st_row HF.out hO hrow
      have HL0 := Lib.hid (pageN_length ot ob (fewN ot ob))
      generalize pageN ot ob (fewN ot ob) = L0 at *
      have HB9 := Lib.hid (bytes_old HOB.out hO)
      have hb63 : ob.length ≤ 9223372036854775807 := Nat.le_trans HB9.out.1 HB9.out.2.1
      have hbc : ob.length ≤ obC := HB9.out.1
      have HPG0 : Hid (∃ (ad2 : Option Addr) (c2 : Nat) (L : List Nat), (∀ z, Old w z → Row z 0 gp cp L0 → Bytes z ad2 c2 L) ∧ L.length ≤ 4096 ∧ Value.slice (some ⟨gp, 0, none⟩) 4096 cp = .slice ad2 L.length c2) :=
        Lib.hid ⟨_, _, L0, fun z _ hr => row_bytes hr, Nat.le_of_eq HL0.out, by rw [HL0.out]⟩
      have HPG1 : Hid (∀ n0, n0 ≤ ob.length → n0 ≤ 100 → ∃ (ad2 : Option Addr) (c2 : Nat) (L : List Nat), (∀ z, Old w z → Row z 0 gp cp L0 → Bytes z ad2 c2 L) ∧ L.length ≤ 4096 ∧ Value.slice obA n0 obC = .slice ad2 L.length c2) :=
        Lib.hid (fun n0 h1 h2 => ⟨_, _, ob.take n0, fun z hz _ => bytes_cut (op5_old HOK.out hz).2.2.2.2.2.2 n0, by rw [List.length_take]; omega, by rw [List.length_take, Nat.min_eq_left h1]⟩)
      clear k1 z1 hPg hO hrow HB9
      have HF1 := Lib.hid hE1
      obtain ⟨k1, -, z1⟩ := of_block (st_pts2 hE1)
      clear hE1 HF
      go_upto_if 155 with (fail)
      refine wp_cutF [false, false, false, false, false, false, false, false, false, false, false, false, false, false, false, false, false, false, false, false, false, true, false, false, false, false, false, false, false, false, false, false, false, false, false, false, false, false, false, false, false, false, false, false, false, false, false, false, false, false, false, false, false, false, false, false, false, false, false, false, false, false, false, false, false, false, false, false, false, false, false, false, false, false, false, false, false, false, false, false, false, false, false, false, false, false, false, false, false, false, false, false, false, false, false, false, false, false, false, false, false, false, false, false, false, false, false, false, false, false, false, false, false, false, false, false, false, false, false, false, false, false, false, false, false, false, false, false, false, false, false, false, false, false, false, false, false, false, false, false, false, false, false, false, false, false, false, false, false, false, false, false, false, false, false, false, true, true, true, true, true, true, true] (fun f wx => (∃ (ad2 : Option Addr) (c2 : Nat) (L : List Nat), (∀ z, Old w z → Row z 0 gp cp L0 → Bytes z ad2 c2 L) ∧ L.length ≤ 4096 ∧ f 21 = .slice ad2 L.length c2) ∧ wx = y) ?rest4 ?first4
      case first4 =>
        intro J4 K4 hJ4 hM4
        cases oo with
        | false =>
          clear HPG1
          go_wp2
          refine Met.intro (hJ4 _ _ (by kernel_rfl) ?_)
          exact ⟨HPG0.out, rfl⟩
        | true =>
          clear HPG0
          by_cases h100 : ob.length ≤ 100
          · have hI : (ob.length : Int) ≤ 100 := by omega
            have hsl := slice_cut_any y obA ob.length obC ob.length hbc
            have HC2 := Lib.hid (HPG1.out ob.length (Nat.le_refl _) h100)
            clear HPG1 h100
            go_wp2
            refine Met.intro (hJ4 _ _ (by kernel_rfl) ?_)
            exact ⟨HC2.out, rfl⟩
          · have hI : (100 : Int) < ob.length := by omega
            have hsl : (Instr.slice 31 (.slice obA ob.length obC) none (some (.int .i64 100)) none).run Try.prog y = .ok (.slice obA 100 obC) y := slice_cut_any y obA 100 obC ob.length (by omega)
            have HC2 := Lib.hid (HPG1.out 100 (by omega) (Nat.le_refl _))
            clear HPG1 h100
            go_wp2
            refine Met.intro (hJ4 _ _ (by kernel_rfl) ?_)
            exact ⟨HC2.out, rfl⟩
      case rest4 =>
      intro f4 wx hcut
      dsimp only [mergeA, mergeL, Nat.reduceAdd]
      obtain ⟨⟨ad2, c2, L, hBL, hL, h21⟩, rfl⟩ := hcut
      rw [h21]
      clear h21 HPG0 HPG1 k1 z1
      have hBy := hBL wx (st_w HF1.out) (st_row2 HF1.out)
      obtain ⟨v1, w2, hrun1, hown1, hO1, hs1⟩ := copy_run 31 wx ad2 c2 L hBy (by omega)
      obtain ⟨g2, cap2, w3, hrun2, hrow2, hO2, hc2, hm2⟩ := mark_run 31 hown1 rfl hO1 hs1 (by omega) (bytes_lt hBy)
      have hsl := slice_cut w3 g2 L.length cap2 (L.length + 1) (by omega)
      have hF3 := st_row HF1.out hO2 hrow2
      obtain ⟨r, pg1, hP, hR⟩ := step5_set (p := p) (q := q) (n := n) (ops := ops) (pg := pg) (lim := lim) ofr L (by unfold maxLen; omega) HLim.out.1
      have hL63 : L.length ≤ 9223372036854775807 := by omega
      have hcap63 : cap2 ≤ 9223372036854775807 := hm2
      have HBL := Lib.hid hBL
      have HF3 := Lib.hid hF3
      have HP : Hid (∀ x, ST w p q n pg ops pg ops lim [RowA g2 cap2 (L ++ [165]), RowA gp cp L0, Pts bo #[Value.int .i64 okd, .int .i64 osz, .int .i64 ofr, .int .u64 (oad : Nat), .int .u64 (ov : Nat), .slice otA ot.length otC, .slice obA ob.length obC, .bool oo] 97] x → Calls Try.prog 54 #[.pointer (some ⟨p, 0, none⟩), .int .i64 ofr, .slice (some ⟨g2, 0, none⟩) L.length cap2] x (fun e y => e = .returned (.int .i64 r) ∧ ST w p q n pg1 ops pg ops lim [RowA g2 cap2 (L ++ [165]), RowA gp cp L0, Pts bo #[Value.int .i64 okd, .int .i64 osz, .int .i64 ofr, .int .u64 (oad : Nat), .int .u64 (ov : Nat), .slice otA ot.length otC, .slice obA ob.length obC, .bool oo] 97] y)) :=
        Lib.hid fun x hx => st_memSet hP hx (row_first5 (st_rowAt hx))
      have HR : Hid (∀ x, ST w p q n pg1 ops pg ops lim [RowA g2 cap2 (L ++ [165]), RowA gp cp L0, Pts bo #[Value.int .i64 okd, .int .i64 osz, .int .i64 ofr, .int .u64 (oad : Nat), .int .u64 (ov : Nat), .slice otA ot.length otC, .slice obA ob.length obC, .bool oo] 97] x → Calls Try.prog 59 #[.pointer (some ⟨q, 0, none⟩), .int .i64 ofr, .slice ad2 L.length c2] x (fun e y => e = .returned (.int .i64 r) ∧ ST w p q n pg1 ops pg1 ops (lim + 4096) [RowA g2 cap2 (L ++ [165]), RowA gp cp L0, Pts bo #[Value.int .i64 okd, .int .i64 osz, .int .i64 ofr, .int .u64 (oad : Nat), .int .u64 (ov : Nat), .slice otA ot.length otC, .slice obA ob.length obC, .bool oo] 97] y)) :=
        Lib.hid fun x hx => st_refSet hR hx (hBL x (st_w hx) (st_row4 hx))
      have HLc := Lib.hid (And.intro hL hc2)
      clear hBy hown1 hO1 hs1 hrow2 hO2 hF3 hP hR hBL hL HF1 hm2
      go_wp2_with (first | (at_builtin; refine wpList_append_run rfl _ _ 31 rfl _ _ rfl rfl _ _ hrun1 ?_; clear hrun1) | (at_builtin; refine wpList_append_run rfl _ _ 31 rfl _ _ rfl rfl _ _ hrun2 ?_; clear hrun2))
      clear hsl
      refine wp_region_met (S := TwoCalls 4 9 (ST w p q n pg ops pg ops lim [RowA g2 cap2 (L ++ [165]), RowA gp cp L0, Pts bo #[Value.int .i64 okd, .int .i64 osz, .int .i64 ofr, .int .u64 (oad : Nat), .int .u64 (ov : Nat), .slice otA ot.length otC, .slice obA ob.length obC, .bool oo] 97]) (ST w p q n pg1 ops pg ops lim [RowA g2 cap2 (L ++ [165]), RowA gp cp L0, Pts bo #[Value.int .i64 okd, .int .i64 osz, .int .i64 ofr, .int .u64 (oad : Nat), .int .u64 (ov : Nat), .slice otA ot.length otC, .slice obA ob.length obC, .bool oo] 97]) (ST w p q n pg1 ops pg1 ops (lim + 4096) [RowA g2 cap2 (L ++ [165]), RowA gp cp L0, Pts bo #[Value.int .i64 okd, .int .i64 osz, .int .i64 ofr, .int .u64 (oad : Nat), .int .u64 (ov : Nat), .slice otA ot.length otC, .slice obA ob.length obC, .bool oo] 97])) 10 (by kernel_rfl) (by kernel_rfl) (by kernel_rfl) (by decide) (tc_start _ (st_old HF3.out (old_drew (old_refl _)))) ?_
      apply walkedM_cons
      · intro l9 wS hz hn hm hS
        have HD := Lib.hid (tc_other 0 (by decide) (by decide) hS)
        clear hS hz hn hm
        go_wp2
        exact ⟨rfl, rfl, HD.out⟩
      · rfl
      (try simp only [Act.put, List.setIfInBounds_toArray, List.set_cons_succ, List.set_cons_zero])
      apply walkedM_cons
      · intro l9 wS hz hn hm hS
        have HD := Lib.hid (tc_other 1 (by decide) (by decide) hS)
        clear hS hz hn hm
        go_wp2
        exact ⟨rfl, rfl, HD.out⟩
      · rfl
      (try simp only [Act.put, List.setIfInBounds_toArray, List.set_cons_succ, List.set_cons_zero])
      apply walkedM_cons
      · intro l9 wS hz hn hm hS
        have HD := Lib.hid (tc_other 2 (by decide) (by decide) hS)
        obtain ⟨q1, -, -⟩ := of_block (tc_any (P := (fun x => x.heap[bo]? = some (.cells #[Value.int .i64 okd, .int .i64 osz, .int .i64 ofr, .int .u64 (oad : Nat), .int .u64 (ov : Nat), .slice otA ot.length otC, .slice obA ob.length obC, .bool oo] 97))) hS (fun h => st_pts4 h) (fun h => st_pts4 h) (fun h => st_pts4 h))
        clear hS hz hn hm
        go_wp2
        exact ⟨rfl, rfl, HD.out⟩
      · rfl
      (try simp only [Act.put, List.setIfInBounds_toArray, List.set_cons_succ, List.set_cons_zero])
      apply walkedM_cons
      · intro l9 wS hz hn hm hS
        have HD := Lib.hid (tc_other 3 (by decide) (by decide) hS)
        clear hS hz hn hm
        go_wp2
        exact ⟨rfl, rfl, HD.out⟩
      · rfl
      (try simp only [Act.put, List.setIfInBounds_toArray, List.set_cons_succ, List.set_cons_zero])
      apply walkedM_cons
      · intro l9 wS hz hn hm hS
        obtain ⟨hA, hnext⟩ := tc_first (by decide) (by rw [hz]; decide) hn hS
        have hc := HP.out wS hA
        have HN := Lib.hid hnext
        clear hS hA hnext hz hn hm
        go_wp2_with fail
        (with_reducible refine hc.mono ?_)
        rintro e y9 ⟨rfl, hB'⟩
        have HD := Lib.hid (HN.out _ hB')
        clear hc hB' HN
        go_wp2
        exact ⟨rfl, rfl, HD.out⟩
      · rfl
      (try simp only [Act.put, List.setIfInBounds_toArray, List.set_cons_succ, List.set_cons_zero])
      apply walkedM_cons
      · intro l9 wS hz hn hm hS
        have HD := Lib.hid (tc_other 5 (by decide) (by decide) hS)
        clear hS hz hn hm
        go_wp2
        exact ⟨rfl, rfl, HD.out⟩
      · rfl
      (try simp only [Act.put, List.setIfInBounds_toArray, List.set_cons_succ, List.set_cons_zero])
      apply walkedM_cons
      · intro l9 wS hz hn hm hS
        have HD := Lib.hid (tc_other 6 (by decide) (by decide) hS)
        clear hS hz hn hm
        go_wp2
        exact ⟨rfl, rfl, HD.out⟩
      · rfl
      (try simp only [Act.put, List.setIfInBounds_toArray, List.set_cons_succ, List.set_cons_zero])
      apply walkedM_cons
      · intro l9 wS hz hn hm hS
        have HD := Lib.hid (tc_other 7 (by decide) (by decide) hS)
        obtain ⟨q1, -, -⟩ := of_block (tc_any (P := (fun x => x.heap[bo]? = some (.cells #[Value.int .i64 okd, .int .i64 osz, .int .i64 ofr, .int .u64 (oad : Nat), .int .u64 (ov : Nat), .slice otA ot.length otC, .slice obA ob.length obC, .bool oo] 97))) hS (fun h => st_pts4 h) (fun h => st_pts4 h) (fun h => st_pts4 h))
        clear hS hz hn hm
        go_wp2
        exact ⟨rfl, rfl, HD.out⟩
      · rfl
      (try simp only [Act.put, List.setIfInBounds_toArray, List.set_cons_succ, List.set_cons_zero])
      apply walkedM_cons
      · intro l9 wS hz hn hm hS
        have HD := Lib.hid (tc_other 8 (by decide) (by decide) hS)
        clear hS hz hn hm
        go_wp2
        exact ⟨rfl, rfl, HD.out⟩
      · rfl
      (try simp only [Act.put, List.setIfInBounds_toArray, List.set_cons_succ, List.set_cons_zero])
      apply walkedM_cons
      · intro l9 wS hz hn hm hS
        obtain ⟨hA, hnext⟩ := tc_second (by decide) (by rw [hz]; decide) (hm _ rfl ⟨4, .chain⟩ (by simp) rfl) hn hS
        have hc := HR.out wS hA
        have HN := Lib.hid hnext
        clear hS hA hnext hz hn hm
        go_wp2_with fail
        (with_reducible refine hc.mono ?_)
        rintro e y9 ⟨rfl, hB'⟩
        have HD := Lib.hid (HN.out _ hB')
        clear hc hB' HN
        go_wp2
        exact ⟨rfl, rfl, HD.out⟩
      · rfl
      (try simp only [Act.put, List.setIfInBounds_toArray, List.set_cons_succ, List.set_cons_zero])
      apply walkedM_nil
      intro l9 z hz hall hS
      have HE := Lib.hid (tc_end (hall 9 (by decide)) hS)
      clear hS hall hz l9
      show wpList _ _ _ [_, _] _ _
      clear HP HR HF3
      have hrowZ := st_rowAt HE.out
      have h1 := conv_bytes (row_first5 hrowZ)
      have h2 := conv_any (HBL.out z (st_w HE.out) (st_row4 HE.out))
      have hbne : ((strOf L).toList != (strOf L).toList) = false := by simp
      have hsl2 := slice_cut z g2 (L.length + 1) cap2 L.length HLc.out.2
      have cM : z.cell? ⟨g2, L.length, none⟩ = some (.int .u8 165) := row_cell hrowZ (by rw [List.getElem?_append_right (Nat.le_refl _), Nat.sub_self]; rfl)
      have hcl : L.length + 1 ≤ cap2 := HLc.out.2
      have hL4 : L.length ≤ 4096 := HLc.out.1
      clear hrowZ HBL
      go_wp2
      refine wp_loopF [false, false, false, false, false, false, false, false, false, false, false, false, false, false, false, false, false, false, false, false, false, false, false, true, false, false, false, false, false, false, false, false, false, false, false, false, false, false, false, false, false, false, false, false, false, false, false, false, false, false, false, false, false, false, false, false, false, false, false, false, false, false, false, false, false, false, false, false, false, false, false, false, false, false, false, false, false, false, false, false, false, false, false, false, false, false, false, false, false, false, false, false, false, false, false, false, false, false, false, false, false, false, false, false, false, false, false, false, false, false, false, false, false, false, false, false, false, false, false, false, false, false, false, false, false, false, false, false, false, false, false, false, false, false, false, false, false, false, false, false, false, false, false, false, false, false, false, false, false, false, false, false, false, false, false, false, false, false, false, false, false, false, false, false, false, false, false, false, false, false, false, false, false, false, false, false, false, false, false, false, false, false, false, false, false, false, false, false, false, false, false, false, false, false, false, false, false, false, true, true, true, true, true, true, true, true, true] (fun f wx => ∃ (m : Nat) (M : List Nat), m ≤ L.length ∧ f 23 = .int .i64 (m : Nat) ∧ M.length = L.length + 1 ∧ ST w p q n pg1 ops pg1 ops (lim + 4096) [RowA g2 cap2 M, RowA gp cp L0, Pts bo #[Value.int .i64 okd, .int .i64 osz, .int .i64 ofr, .int .u64 (oad : Nat), .int .u64 (ov : Nat), .slice otA ot.length otC, .slice obA ob.length obC, .bool oo] 97] wx) (fun f => L.length - (intOf (f 23)).toNat) ?start8 ?round8
      case start8 => exact ⟨0, _, by omega, rfl, by simp, HE.out⟩
      case round8 =>
        clear HE h1 h2 hbne hsl2 cM
        intro f6 wr6 hrel J6 K6 hJ6 hM6
        dsimp only [mergeA, mergeL, Nat.reduceAdd]
        obtain ⟨m, M, hm, h28, hM, hS⟩ := hrel
        rw [h28]
        have H28 := Lib.hid h28
        clear h28
        by_cases hm4 : m = L.length
        · subst hm4
          have HE := Lib.hid (st_less (st_less hS))
          clear hm hM hS
          go_wp2
          refine Met.intro (hJ1 _ _ (by kernel_rfl) ?_)
          exact ⟨r, pg1, ops, rfl, rfl, by omega, HE.out⟩
        · have hlt : m < L.length := by omega
          have hlti : (m : Int) < L.length := by omega
          obtain ⟨u, hu⟩ : ∃ u, M[m]? = some u := ⟨_, List.getElem?_eq_getElem (by omega)⟩
          have hrow := st_rowAt hS
          have cM := row_cell hrow hu
          have fM := row_frozen hrow m
          have HN := Lib.hid (st_rowPut hS m 238 (by decide))
          have HM := Lib.hid (And.intro hlt hM)
          clear hm hM hS hm4 hlt hu hrow
          go_wp2
          refine Met.intro (hJ6 _ _ (by kernel_rfl) ?_ ?_)
          · exact ⟨m + 1, M.set m 238, HM.out.1, by show Value.int .i64 ((m : Int) + 1) = _; simp, by rw [List.length_set]; exact HM.out.2, HN.out⟩
          · have := HM.out.1
            rw [H28.out]; show L.length - (intOf (Value.int .i64 ((m : Int) + 1))).toNat < L.length - (intOf (Value.int .i64 (m : Int))).toNat
            simp [intOf]; omega
    · obtain ⟨r, pg1, hP, hR⟩ := step5_zero (p := p) (q := q) (n := n) (ops := ops) (pg := pg) (lim := lim) ofr (by have := HLim.out; omega)
      have HP := Lib.hid (fun x (hx : ST w p q n pg ops pg ops lim [Pts bo #[Value.int .i64 okd, .int .i64 osz, .int .i64 ofr, .int .u64 (oad : Nat), .int .u64 (ov : Nat), .slice otA ot.length otC, .slice obA ob.length obC, .bool oo] 97] x) => st_mem hP hx)
      have HR := Lib.hid (fun x (hx : ST w p q n pg1 ops pg ops lim [Pts bo #[Value.int .i64 okd, .int .i64 osz, .int .i64 ofr, .int .u64 (oad : Nat), .int .u64 (ov : Nat), .slice otA ot.length otC, .slice obA ob.length obC, .bool oo] 97] x) => st_ref hR hx)
      clear hP hR k1 z1
      go_upto_region 43 with (fail)
      refine wp_region_met (S := TwoCalls 3 7 (ST w p q n pg ops pg ops lim [Pts bo #[Value.int .i64 okd, .int .i64 osz, .int .i64 ofr, .int .u64 (oad : Nat), .int .u64 (ov : Nat), .slice otA ot.length otC, .slice obA ob.length obC, .bool oo] 97]) (ST w p q n pg1 ops pg ops lim [Pts bo #[Value.int .i64 okd, .int .i64 osz, .int .i64 ofr, .int .u64 (oad : Nat), .int .u64 (ov : Nat), .slice otA ot.length otC, .slice obA ob.length obC, .bool oo] 97]) (ST w p q n pg1 ops pg1 ops lim [Pts bo #[Value.int .i64 okd, .int .i64 osz, .int .i64 ofr, .int .u64 (oad : Nat), .int .u64 (ov : Nat), .slice otA ot.length otC, .slice obA ob.length obC, .bool oo] 97])) 8 (by kernel_rfl) (by kernel_rfl) (by kernel_rfl) (by decide) (tc_start _ (st_old HF.out (old_drew (old_refl _)))) ?_
      apply walkedM_cons
      · intro l9 wS hz hn hm hS
        have HD := Lib.hid (tc_other 0 (by decide) (by decide) hS)
        clear hS hz hn hm
        go_wp2
        exact ⟨rfl, rfl, HD.out⟩
      · rfl
      (try simp only [Act.put, List.setIfInBounds_toArray, List.set_cons_succ, List.set_cons_zero])
      apply walkedM_cons
      · intro l9 wS hz hn hm hS
        have HD := Lib.hid (tc_other 1 (by decide) (by decide) hS)
        clear hS hz hn hm
        go_wp2
        exact ⟨rfl, rfl, HD.out⟩
      · rfl
      (try simp only [Act.put, List.setIfInBounds_toArray, List.set_cons_succ, List.set_cons_zero])
      apply walkedM_cons
      · intro l9 wS hz hn hm hS
        have HD := Lib.hid (tc_other 2 (by decide) (by decide) hS)
        obtain ⟨q1, -, -⟩ := of_block (tc_any (P := (fun x => x.heap[bo]? = some (.cells #[Value.int .i64 okd, .int .i64 osz, .int .i64 ofr, .int .u64 (oad : Nat), .int .u64 (ov : Nat), .slice otA ot.length otC, .slice obA ob.length obC, .bool oo] 97))) hS (fun h => st_pts h) (fun h => st_pts h) (fun h => st_pts h))
        clear hS hz hn hm
        go_wp2
        exact ⟨rfl, rfl, HD.out⟩
      · rfl
      (try simp only [Act.put, List.setIfInBounds_toArray, List.set_cons_succ, List.set_cons_zero])
      apply walkedM_cons
      · intro l9 wS hz hn hm hS
        obtain ⟨hA, hnext⟩ := tc_first (by decide) (by rw [hz]; decide) hn hS
        have hc := HP.out wS hA
        have HN := Lib.hid hnext
        clear hS hA hnext hz hn hm
        go_wp2_with fail
        (with_reducible refine hc.mono ?_)
        rintro e y9 ⟨rfl, hB'⟩
        have HD := Lib.hid (HN.out _ hB')
        clear hc hB' HN
        go_wp2
        exact ⟨rfl, rfl, HD.out⟩
      · rfl
      (try simp only [Act.put, List.setIfInBounds_toArray, List.set_cons_succ, List.set_cons_zero])
      apply walkedM_cons
      · intro l9 wS hz hn hm hS
        have HD := Lib.hid (tc_other 4 (by decide) (by decide) hS)
        clear hS hz hn hm
        go_wp2
        exact ⟨rfl, rfl, HD.out⟩
      · rfl
      (try simp only [Act.put, List.setIfInBounds_toArray, List.set_cons_succ, List.set_cons_zero])
      apply walkedM_cons
      · intro l9 wS hz hn hm hS
        have HD := Lib.hid (tc_other 5 (by decide) (by decide) hS)
        clear hS hz hn hm
        go_wp2
        exact ⟨rfl, rfl, HD.out⟩
      · rfl
      (try simp only [Act.put, List.setIfInBounds_toArray, List.set_cons_succ, List.set_cons_zero])
      apply walkedM_cons
      · intro l9 wS hz hn hm hS
        have HD := Lib.hid (tc_other 6 (by decide) (by decide) hS)
        obtain ⟨q1, -, -⟩ := of_block (tc_any (P := (fun x => x.heap[bo]? = some (.cells #[Value.int .i64 okd, .int .i64 osz, .int .i64 ofr, .int .u64 (oad : Nat), .int .u64 (ov : Nat), .slice otA ot.length otC, .slice obA ob.length obC, .bool oo] 97))) hS (fun h => st_pts h) (fun h => st_pts h) (fun h => st_pts h))
        clear hS hz hn hm
        go_wp2
        exact ⟨rfl, rfl, HD.out⟩
      · rfl
      (try simp only [Act.put, List.setIfInBounds_toArray, List.set_cons_succ, List.set_cons_zero])
      apply walkedM_cons
      · intro l9 wS hz hn hm hS
        obtain ⟨hA, hnext⟩ := tc_second (by decide) (by rw [hz]; decide) (hm _ rfl ⟨3, .chain⟩ (by simp) rfl) hn hS
        have hc := HR.out wS hA
        have HN := Lib.hid hnext
        clear hS hA hnext hz hn hm
        go_wp2_with fail
        (with_reducible refine hc.mono ?_)
        rintro e y9 ⟨rfl, hB'⟩
        have HD := Lib.hid (HN.out _ hB')
        clear hc hB' HN
        go_wp2
        exact ⟨rfl, rfl, HD.out⟩
      · rfl
      (try simp only [Act.put, List.setIfInBounds_toArray, List.set_cons_succ, List.set_cons_zero])
      apply walkedM_nil
      intro l9 z hz hall hS
      have HE := Lib.hid (tc_end (hall 7 (by decide)) hS)
      clear hS hall hz l9
      show wpList _ _ _ [_, _] _ _
      clear HP HR
      go_wp2
      refine Met.intro (hJ1 _ _ (by kernel_rfl) ?_)
      exact ⟨r, pg1, ops, rfl, rfl, by omega, st_lim HE.out (by omega)⟩
    · obtain ⟨r, o, hP, hR⟩ := step5_get (p := p) (q := q) (n := n) (ops := ops) (pg := pg) (lim := lim) HLen.out ofr
      have HR := Lib.hid hR
      obtain ⟨O1, hO1⟩ := st_memO HF.out
      have hc := hP O1 _ hO1
      clear hP hR hO1
      go_wp2_with fail
      (with_reducible refine hc.mono ?_)
      rintro e y1 ⟨v1, rfl, hv1, ho1⟩
      have hS1 := st_old HF.out ho1
      obtain ⟨O2, hO2⟩ := st_refO hS1
      have hc2 := HR.out O2 _ hO2
      have HV1 := Lib.hid hv1
      have HO1 := Lib.hid ho1
      clear k1 z1 hc hv1 ho1 HR hO2
      obtain ⟨k1, -, z1⟩ := of_block (st_pts hS1)
      clear hS1
      go_wp2_with fail
      (with_reducible refine hc2.mono ?_)
      rintro e y2 ⟨v2, rfl, hv2, ho2⟩
      clear k1 z1 hc2
      cases o with
      | none =>
        obtain rfl : v1 = .slice none 0 0 := HV1.out
        obtain rfl : v2 = .slice none 0 0 := hv2
        have HE := Lib.hid (st_old (st_old HF.out HO1.out) ho2)
        have hcn := conv_nil5 y2
        have hbne : ((strOf []).toList != (strOf []).toList) = false := by simp
        clear ho2 HV1 HO1 HF
        go_wp2
        refine wp_loopF [false, false, false, false, false, false, false, false, false, false, false, false, false, false, false, false, false, false, false, false, false, false, false, false, false, false, false, false, true, false, false, false, false, false, false, false, false, false, false, false, false, false, false, false, false, false, false, false, false, false, false, false, false, false, false, false, false, false, false, false, false, false, false, false, false, false, false, false, false, false, false, false, false, false, false, false, false, false, false, false, false, false, false, false, false, false, false, false, false, false, false, true, true, true, true, true, true, true, true, true] (fun f wx => f 28 = .int .i64 0 ∧ wx = y2) (fun f => 0) ?start6 ?round6
        case start6 => exact ⟨rfl, rfl⟩
        case round6 =>
          intro f6 wr6 hrel J6 K6 hJ6 hM6
          dsimp only [mergeA, mergeL, Nat.reduceAdd]
          obtain ⟨h28, rfl⟩ := hrel
          rw [h28]
          clear h28 hcn
          go_wp2
          refine Met.intro (hJ1 _ _ (by kernel_rfl) ?_)
          exact ⟨r, pg, ops, rfl, rfl, by omega, st_lim HE.out (by omega)⟩
      | some Lp =>
        obtain ⟨g, c, rfl, hl4, hr1⟩ := HV1.out
        obtain ⟨g', c', rfl, -, hr2⟩ := hv2
        have hE1 := st_row HF.out HO1.out hr1
        have hE2 := st_old hE1 ho2
        have h1 := conv_bytes (row_bytes (st_rowAt hE2))
        have h2 := conv_bytes (row_bytes hr2)
        rw [hl4] at h1 h2
        have hbne : ((strOf Lp).toList != (strOf Lp).toList) = false := by simp
        have HE := Lib.hid hE2
        have HL4 := Lib.hid hl4
        clear hr1 hr2 hE1 hE2 ho2 HV1 HO1 HF hl4
        go_wp2
        refine wp_loopF [false, false, false, false, false, false, false, false, false, false, false, false, false, false, false, false, false, false, false, false, false, false, false, false, false, false, false, false, true, false, false, false, false, false, false, false, false, false, false, false, false, false, false, false, false, false, false, false, false, false, false, false, false, false, false, false, false, false, false, false, false, false, false, false, false, false, false, false, false, false, false, false, false, false, false, false, false, false, false, false, false, false, false, false, false, false, false, false, false, false, false, true, true, true, true, true, true, true, true, true] (fun f wx => ∃ (m : Nat) (M : List Nat), m ≤ 4096 ∧ f 28 = .int .i64 (m : Nat) ∧ M.length = 4096 ∧ ST w p q n pg ops pg ops lim [RowA g c M, Pts bo #[Value.int .i64 okd, .int .i64 osz, .int .i64 ofr, .int .u64 (oad : Nat), .int .u64 (ov : Nat), .slice otA ot.length otC, .slice obA ob.length obC, .bool oo] 97] wx) (fun f => 4096 - (intOf (f 28)).toNat) ?start7 ?round7
        case start7 => exact ⟨0, _, by omega, rfl, HL4.out, HE.out⟩
        case round7 =>
          clear HE h1 h2 hbne
          intro f6 wr6 hrel J6 K6 hJ6 hM6
          dsimp only [mergeA, mergeL, Nat.reduceAdd]
          obtain ⟨m, M, hm, h28, hM, hS⟩ := hrel
          rw [h28]
          have H28 := Lib.hid h28
          clear h28
          by_cases hm4 : m = 4096
          · subst hm4
            have HE := Lib.hid (st_less hS)
            clear hm hM hS
            go_wp2
            refine Met.intro (hJ1 _ _ (by kernel_rfl) ?_)
            exact ⟨r, pg, ops, rfl, rfl, by omega, st_lim HE.out (by omega)⟩
          · have hlt : m < 4096 := by omega
            have hlti : (m : Int) < 4096 := by omega
            obtain ⟨u, hu⟩ : ∃ u, M[m]? = some u := ⟨_, List.getElem?_eq_getElem (by omega)⟩
            have hrow := st_rowAt hS
            have cM := row_cell hrow hu
            have fM := row_frozen hrow m
            have HN := Lib.hid (st_rowPut hS m 221 (by decide))
            have HM := Lib.hid (And.intro hlt hM)
            clear hm hM hS hm4 hlt hu hrow
            go_wp2
            refine Met.intro (hJ6 _ _ (by kernel_rfl) ?_ ?_)
            · exact ⟨m + 1, M.set m 221, HM.out.1, by show Value.int .i64 ((m : Int) + 1) = _; simp, by rw [List.length_set]; exact HM.out.2, HN.out⟩
            · have := HM.out.1
              rw [H28.out]; show 4096 - (intOf (Value.int .i64 ((m : Int) + 1))).toNat < 4096 - (intOf (Value.int .i64 (m : Int))).toNat
              simp [intOf]; omega
  case rest3 =>
  intro f3 wx hcut
  dsimp only [mergeA, mergeL, Nat.reduceAdd]
  obtain ⟨v, pg1, ops1, h15, h16, ho1, hF⟩ := hcut
  rw [h15, h16]
  clear HF k1 z1 hK HLen
  have hlen := st_len hF
  obtain ⟨cb, hcA, hcB⟩ := quiet5_clear (p := p) (q := q) (n := n) (ops := ops1) (lim := lim + 4096) hlen ofr
  obtain ⟨sb, hsA, hsB⟩ := quiet5_same (p := p) (q := q) (n := n) (ops := ops1) (lim := lim + 4096) hlen a b
  obtain ⟨vq, hvq⟩ := st_ref_cells hF
  have HO := Lib.hid ho1
  clear h15 h16 hlen ho1
  obtain ⟨lim1, hlim1⟩ : ∃ lim1, lim + 4096 = lim1 := ⟨_, rfl⟩
  rw [hlim1] at hcB hsB hF
  have HLI := Lib.hid hlim1
  clear hlim1
  have HC : Hid ((∀ x, ST w p q n pg1 ops1 pg1 ops1 lim1 [Pts bo #[Value.int .i64 okd, .int .i64 osz, .int .i64 ofr, .int .u64 (oad : Nat), .int .u64 (ov : Nat), .slice otA ot.length otC, .slice obA ob.length obC, .bool oo] 97] x → Calls Try.prog 53 #[.pointer (some ⟨p, 0, none⟩), .int .i64 ofr] x (RetB x (.bool cb))) ∧
    (∀ x, ST w p q n pg1 ops1 pg1 ops1 lim1 [Pts bo #[Value.int .i64 okd, .int .i64 osz, .int .i64 ofr, .int .u64 (oad : Nat), .int .u64 (ov : Nat), .slice otA ot.length otC, .slice obA ob.length obC, .bool oo] 97] x → Calls Try.prog 63 #[.pointer (some ⟨q, 0, none⟩), .int .i64 ofr] x (RetB x (.bool cb))) ∧
    (∀ x, ST w p q n pg1 ops1 pg1 ops1 lim1 [Pts bo #[Value.int .i64 okd, .int .i64 osz, .int .i64 ofr, .int .u64 (oad : Nat), .int .u64 (ov : Nat), .slice otA ot.length otC, .slice obA ob.length obC, .bool oo] 97] x → Calls Try.prog 55 #[.pointer (some ⟨p, 0, none⟩), .int .i64 a, .int .i64 b] x (RetB x (.bool sb))) ∧
    (∀ x, ST w p q n pg1 ops1 pg1 ops1 lim1 [Pts bo #[Value.int .i64 okd, .int .i64 osz, .int .i64 ofr, .int .u64 (oad : Nat), .int .u64 (ov : Nat), .slice otA ot.length otC, .slice obA ob.length obC, .bool oo] 97] x → Calls Try.prog 64 #[.pointer (some ⟨q, 0, none⟩), .int .i64 a, .int .i64 b] x (RetB x (.bool sb))) ∧
    (∀ x, ST w p q n pg1 ops1 pg1 ops1 lim1 [Pts bo #[Value.int .i64 okd, .int .i64 osz, .int .i64 ofr, .int .u64 (oad : Nat), .int .u64 (ov : Nat), .slice otA ot.length otC, .slice obA ob.length obC, .bool oo] 97] x → Calls Try.prog 52 #[.pointer (some ⟨p, 0, none⟩)] x (RetB x (.int .i64 ops1))) ∧
    (∀ x, ST w p q n pg1 ops1 pg1 ops1 lim1 [Pts bo #[Value.int .i64 okd, .int .i64 osz, .int .i64 ofr, .int .u64 (oad : Nat), .int .u64 (ov : Nat), .slice otA ot.length otC, .slice obA ob.length obC, .bool oo] 97] x → Calls Try.prog 65 #[.pointer (some ⟨p, 0, none⟩)] x (RetB x (.int .i64 n)))) := Lib.hid
    ⟨fun x h => by obtain ⟨O, hO⟩ := st_memO h; exact hcA O x hO, fun x h => by obtain ⟨O, hO⟩ := st_refO h; exact hcB O x hO, fun x h => by obtain ⟨O, hO⟩ := st_memO h; exact hsA O x hO,
     fun x h => by obtain ⟨O, hO⟩ := st_refO h; exact hsB O x hO, fun x h => by obtain ⟨O, hO⟩ := st_memO h; exact ops_calls hO.1, fun x h => by obtain ⟨O, hO⟩ := st_memO h; exact frames_calls hO.1⟩
  have HS0 := Lib.hid (And.intro hF hvq)
  clear hcA hcB hsA hsB hF hvq
  go_wp2_with fail
  refine wp_region_walked (S := fun x => ST w p q n pg1 ops1 pg1 ops1 lim1 [Pts bo #[Value.int .i64 okd, .int .i64 osz, .int .i64 ofr, .int .u64 (oad : Nat), .int .u64 (ov : Nat), .slice otA ot.length otC, .slice obA ob.length obC, .bool oo] 97] x ∧ x.heap[q]? = some (.cells #[.int .i64 (n : Nat), vq, .int .i64 (ops1 : Nat)] 103)) (by kernel_rfl) (by kernel_rfl) ⟨st_old HS0.out.1 (old_drew (old_refl _)), keep_old (old_drew (old_refl _)) HS0.out.2⟩ ?_
  apply walked_cons
  · intro wS hS
    have HS := Lib.hid hS
    clear hS
    go_wp2
    exact ⟨rfl, rfl, HS.out⟩
  · rfl
  (try simp only [Act.put, List.setIfInBounds_toArray, List.set_cons_succ, List.set_cons_zero])
  apply walked_cons
  · intro wS hS
    have HS := Lib.hid hS
    clear hS
    go_wp2
    exact ⟨rfl, rfl, HS.out⟩
  · rfl
  (try simp only [Act.put, List.setIfInBounds_toArray, List.set_cons_succ, List.set_cons_zero])
  apply walked_cons
  · intro wS hS
    have HS := Lib.hid hS
    clear hS
    go_wp2
    exact ⟨rfl, rfl, HS.out⟩
  · rfl
  (try simp only [Act.put, List.setIfInBounds_toArray, List.set_cons_succ, List.set_cons_zero])
  apply walked_cons
  · intro wS hS
    have HS := Lib.hid hS
    clear hS
    go_wp2
    exact ⟨rfl, rfl, HS.out⟩
  · rfl
  (try simp only [Act.put, List.setIfInBounds_toArray, List.set_cons_succ, List.set_cons_zero])
  apply walked_cons
  · intro wS hS
    have HS := Lib.hid hS
    clear hS
    go_wp2
    exact ⟨rfl, rfl, HS.out⟩
  · rfl
  (try simp only [Act.put, List.setIfInBounds_toArray, List.set_cons_succ, List.set_cons_zero])
  apply walked_cons
  · intro wS hS
    have HS := Lib.hid hS
    clear hS
    go_wp2
    exact ⟨rfl, rfl, HS.out⟩
  · rfl
  (try simp only [Act.put, List.setIfInBounds_toArray, List.set_cons_succ, List.set_cons_zero])
  apply walked_cons
  · intro wS hS
    have HS := Lib.hid hS
    obtain ⟨k1, -, -⟩ := of_block (st_pts hS.1)
    obtain ⟨k2, -, -⟩ := of_block hS.2
    clear hS
    go_wp2
    exact ⟨rfl, rfl, HS.out⟩
  · rfl
  (try simp only [Act.put, List.setIfInBounds_toArray, List.set_cons_succ, List.set_cons_zero])
  apply walked_cons
  · intro wS hS
    have hc := HC.out.1 wS hS.1
    have HS := Lib.hid hS
    clear hS
    go_wp2_with fail
    (with_reducible refine hc.mono ?_)
    rintro e y9 ⟨rfl, hY⟩
    have HY := Lib.hid (⟨st_old HS.out.1 hY, keep_old hY HS.out.2⟩ : ST w p q n pg1 ops1 pg1 ops1 lim1 [Pts bo #[Value.int .i64 okd, .int .i64 osz, .int .i64 ofr, .int .u64 (oad : Nat), .int .u64 (ov : Nat), .slice otA ot.length otC, .slice obA ob.length obC, .bool oo] 97] y9 ∧ y9.heap[q]? = some (.cells #[.int .i64 (n : Nat), vq, .int .i64 (ops1 : Nat)] 103))
    clear hc hY HS
    go_wp2
    exact ⟨rfl, rfl, HY.out⟩
  · rfl
  (try simp only [Act.put, List.setIfInBounds_toArray, List.set_cons_succ, List.set_cons_zero])
  apply walked_cons
  · intro wS hS
    have HS := Lib.hid hS
    clear hS
    go_wp2
    exact ⟨rfl, rfl, HS.out⟩
  · rfl
  (try simp only [Act.put, List.setIfInBounds_toArray, List.set_cons_succ, List.set_cons_zero])
  apply walked_cons
  · intro wS hS
    have HS := Lib.hid hS
    clear hS
    go_wp2
    exact ⟨rfl, rfl, HS.out⟩
  · rfl
  (try simp only [Act.put, List.setIfInBounds_toArray, List.set_cons_succ, List.set_cons_zero])
  apply walked_cons
  · intro wS hS
    have HS := Lib.hid hS
    obtain ⟨k1, -, -⟩ := of_block (st_pts hS.1)
    obtain ⟨k2, -, -⟩ := of_block hS.2
    clear hS
    go_wp2
    exact ⟨rfl, rfl, HS.out⟩
  · rfl
  (try simp only [Act.put, List.setIfInBounds_toArray, List.set_cons_succ, List.set_cons_zero])
  apply walked_cons
  · intro wS hS
    have hc := HC.out.2.1 wS hS.1
    have HS := Lib.hid hS
    clear hS
    go_wp2_with fail
    (with_reducible refine hc.mono ?_)
    rintro e y9 ⟨rfl, hY⟩
    have HY := Lib.hid (⟨st_old HS.out.1 hY, keep_old hY HS.out.2⟩ : ST w p q n pg1 ops1 pg1 ops1 lim1 [Pts bo #[Value.int .i64 okd, .int .i64 osz, .int .i64 ofr, .int .u64 (oad : Nat), .int .u64 (ov : Nat), .slice otA ot.length otC, .slice obA ob.length obC, .bool oo] 97] y9 ∧ y9.heap[q]? = some (.cells #[.int .i64 (n : Nat), vq, .int .i64 (ops1 : Nat)] 103))
    clear hc hY HS
    go_wp2
    exact ⟨rfl, rfl, HY.out⟩
  · rfl
  (try simp only [Act.put, List.setIfInBounds_toArray, List.set_cons_succ, List.set_cons_zero])
  apply walked_cons
  · intro wS hS
    have HS := Lib.hid hS
    clear hS
    go_wp2
    exact ⟨rfl, rfl, HS.out⟩
  · rfl
  (try simp only [Act.put, List.setIfInBounds_toArray, List.set_cons_succ, List.set_cons_zero])
  apply walked_cons
  · intro wS hS
    have HS := Lib.hid hS
    clear hS
    go_wp2
    exact ⟨rfl, rfl, HS.out⟩
  · rfl
  (try simp only [Act.put, List.setIfInBounds_toArray, List.set_cons_succ, List.set_cons_zero])
  apply walked_cons
  · intro wS hS
    have HS := Lib.hid hS
    clear hS
    go_wp2
    exact ⟨rfl, rfl, HS.out⟩
  · rfl
  (try simp only [Act.put, List.setIfInBounds_toArray, List.set_cons_succ, List.set_cons_zero])
  apply walked_cons
  · intro wS hS
    have HS := Lib.hid hS
    clear hS
    go_wp2
    exact ⟨rfl, rfl, HS.out⟩
  · rfl
  (try simp only [Act.put, List.setIfInBounds_toArray, List.set_cons_succ, List.set_cons_zero])
  apply walked_cons
  · intro wS hS
    have HS := Lib.hid hS
    clear hS
    go_wp2
    exact ⟨rfl, rfl, HS.out⟩
  · rfl
  (try simp only [Act.put, List.setIfInBounds_toArray, List.set_cons_succ, List.set_cons_zero])
  apply walked_cons
  · intro wS hS
    have HS := Lib.hid hS
    clear hS
    go_wp2
    exact ⟨rfl, rfl, HS.out⟩
  · rfl
  (try simp only [Act.put, List.setIfInBounds_toArray, List.set_cons_succ, List.set_cons_zero])
  apply walked_cons
  · intro wS hS
    have hc := HC.out.2.2.1 wS hS.1
    have HS := Lib.hid hS
    clear hS
    go_wp2_with fail
    (with_reducible refine hc.mono ?_)
    rintro e y9 ⟨rfl, hY⟩
    have HY := Lib.hid (⟨st_old HS.out.1 hY, keep_old hY HS.out.2⟩ : ST w p q n pg1 ops1 pg1 ops1 lim1 [Pts bo #[Value.int .i64 okd, .int .i64 osz, .int .i64 ofr, .int .u64 (oad : Nat), .int .u64 (ov : Nat), .slice otA ot.length otC, .slice obA ob.length obC, .bool oo] 97] y9 ∧ y9.heap[q]? = some (.cells #[.int .i64 (n : Nat), vq, .int .i64 (ops1 : Nat)] 103))
    clear hc hY HS
    go_wp2
    exact ⟨rfl, rfl, HY.out⟩
  · rfl
  (try simp only [Act.put, List.setIfInBounds_toArray, List.set_cons_succ, List.set_cons_zero])
  apply walked_cons
  · intro wS hS
    have HS := Lib.hid hS
    clear hS
    go_wp2
    exact ⟨rfl, rfl, HS.out⟩
  · rfl
  (try simp only [Act.put, List.setIfInBounds_toArray, List.set_cons_succ, List.set_cons_zero])
  apply walked_cons
  · intro wS hS
    have HS := Lib.hid hS
    clear hS
    go_wp2
    exact ⟨rfl, rfl, HS.out⟩
  · rfl
  (try simp only [Act.put, List.setIfInBounds_toArray, List.set_cons_succ, List.set_cons_zero])
  apply walked_cons
  · intro wS hS
    have HS := Lib.hid hS
    clear hS
    go_wp2
    exact ⟨rfl, rfl, HS.out⟩
  · rfl
  (try simp only [Act.put, List.setIfInBounds_toArray, List.set_cons_succ, List.set_cons_zero])
  apply walked_cons
  · intro wS hS
    have hc := HC.out.2.2.2.1 wS hS.1
    have HS := Lib.hid hS
    clear hS
    go_wp2_with fail
    (with_reducible refine hc.mono ?_)
    rintro e y9 ⟨rfl, hY⟩
    have HY := Lib.hid (⟨st_old HS.out.1 hY, keep_old hY HS.out.2⟩ : ST w p q n pg1 ops1 pg1 ops1 lim1 [Pts bo #[Value.int .i64 okd, .int .i64 osz, .int .i64 ofr, .int .u64 (oad : Nat), .int .u64 (ov : Nat), .slice otA ot.length otC, .slice obA ob.length obC, .bool oo] 97] y9 ∧ y9.heap[q]? = some (.cells #[.int .i64 (n : Nat), vq, .int .i64 (ops1 : Nat)] 103))
    clear hc hY HS
    go_wp2
    exact ⟨rfl, rfl, HY.out⟩
  · rfl
  (try simp only [Act.put, List.setIfInBounds_toArray, List.set_cons_succ, List.set_cons_zero])
  apply walked_cons
  · intro wS hS
    have HS := Lib.hid hS
    clear hS
    go_wp2
    exact ⟨rfl, rfl, HS.out⟩
  · rfl
  (try simp only [Act.put, List.setIfInBounds_toArray, List.set_cons_succ, List.set_cons_zero])
  apply walked_cons
  · intro wS hS
    have HS := Lib.hid hS
    clear hS
    go_wp2
    exact ⟨rfl, rfl, HS.out⟩
  · rfl
  (try simp only [Act.put, List.setIfInBounds_toArray, List.set_cons_succ, List.set_cons_zero])
  apply walked_cons
  · intro wS hS
    have HS := Lib.hid hS
    clear hS
    go_wp2
    exact ⟨rfl, rfl, HS.out⟩
  · rfl
  (try simp only [Act.put, List.setIfInBounds_toArray, List.set_cons_succ, List.set_cons_zero])
  apply walked_cons
  · intro wS hS
    have HS := Lib.hid hS
    clear hS
    go_wp2
    exact ⟨rfl, rfl, HS.out⟩
  · rfl
  (try simp only [Act.put, List.setIfInBounds_toArray, List.set_cons_succ, List.set_cons_zero])
  apply walked_cons
  · intro wS hS
    have hc := HC.out.2.2.2.2.1 wS hS.1
    have HS := Lib.hid hS
    clear hS
    go_wp2_with fail
    (with_reducible refine hc.mono ?_)
    rintro e y9 ⟨rfl, hY⟩
    have HY := Lib.hid (⟨st_old HS.out.1 hY, keep_old hY HS.out.2⟩ : ST w p q n pg1 ops1 pg1 ops1 lim1 [Pts bo #[Value.int .i64 okd, .int .i64 osz, .int .i64 ofr, .int .u64 (oad : Nat), .int .u64 (ov : Nat), .slice otA ot.length otC, .slice obA ob.length obC, .bool oo] 97] y9 ∧ y9.heap[q]? = some (.cells #[.int .i64 (n : Nat), vq, .int .i64 (ops1 : Nat)] 103))
    clear hc hY HS
    go_wp2
    exact ⟨rfl, rfl, HY.out⟩
  · rfl
  (try simp only [Act.put, List.setIfInBounds_toArray, List.set_cons_succ, List.set_cons_zero])
  apply walked_cons
  · intro wS hS
    have HS := Lib.hid hS
    clear hS
    go_wp2
    exact ⟨rfl, rfl, HS.out⟩
  · rfl
  (try simp only [Act.put, List.setIfInBounds_toArray, List.set_cons_succ, List.set_cons_zero])
  apply walked_cons
  · intro wS hS
    have HS := Lib.hid hS
    clear hS
    go_wp2
    exact ⟨rfl, rfl, HS.out⟩
  · rfl
  (try simp only [Act.put, List.setIfInBounds_toArray, List.set_cons_succ, List.set_cons_zero])
  apply walked_cons
  · intro wS hS
    have HS := Lib.hid hS
    clear hS
    go_wp2
    exact ⟨rfl, rfl, HS.out⟩
  · rfl
  (try simp only [Act.put, List.setIfInBounds_toArray, List.set_cons_succ, List.set_cons_zero])
  apply walked_cons
  · intro wS hS
    have HS := Lib.hid hS
    obtain ⟨k1, -, -⟩ := of_block (st_pts hS.1)
    obtain ⟨k2, -, -⟩ := of_block hS.2
    clear hS
    go_wp2
    exact ⟨rfl, rfl, HS.out⟩
  · rfl
  (try simp only [Act.put, List.setIfInBounds_toArray, List.set_cons_succ, List.set_cons_zero])
  apply walked_cons
  · intro wS hS
    have HS := Lib.hid hS
    clear hS
    go_wp2
    exact ⟨rfl, rfl, HS.out⟩
  · rfl
  (try simp only [Act.put, List.setIfInBounds_toArray, List.set_cons_succ, List.set_cons_zero])
  apply walked_cons
  · intro wS hS
    have HS := Lib.hid hS
    clear hS
    go_wp2
    exact ⟨rfl, rfl, HS.out⟩
  · rfl
  (try simp only [Act.put, List.setIfInBounds_toArray, List.set_cons_succ, List.set_cons_zero])
  apply walked_cons
  · intro wS hS
    have HS := Lib.hid hS
    clear hS
    go_wp2
    exact ⟨rfl, rfl, HS.out⟩
  · rfl
  (try simp only [Act.put, List.setIfInBounds_toArray, List.set_cons_succ, List.set_cons_zero])
  apply walked_cons
  · intro wS hS
    have HS := Lib.hid hS
    clear hS
    go_wp2
    exact ⟨rfl, rfl, HS.out⟩
  · rfl
  (try simp only [Act.put, List.setIfInBounds_toArray, List.set_cons_succ, List.set_cons_zero])
  apply walked_cons
  · intro wS hS
    have hc := HC.out.2.2.2.2.2 wS hS.1
    have HS := Lib.hid hS
    clear hS
    go_wp2_with fail
    (with_reducible refine hc.mono ?_)
    rintro e y9 ⟨rfl, hY⟩
    have HY := Lib.hid (⟨st_old HS.out.1 hY, keep_old hY HS.out.2⟩ : ST w p q n pg1 ops1 pg1 ops1 lim1 [Pts bo #[Value.int .i64 okd, .int .i64 osz, .int .i64 ofr, .int .u64 (oad : Nat), .int .u64 (ov : Nat), .slice otA ot.length otC, .slice obA ob.length obC, .bool oo] 97] y9 ∧ y9.heap[q]? = some (.cells #[.int .i64 (n : Nat), vq, .int .i64 (ops1 : Nat)] 103))
    clear hc hY HS
    go_wp2
    exact ⟨rfl, rfl, HY.out⟩
  · rfl
  (try simp only [Act.put, List.setIfInBounds_toArray, List.set_cons_succ, List.set_cons_zero])
  apply walked_cons
  · intro wS hS
    have HS := Lib.hid hS
    clear hS
    go_wp2
    exact ⟨rfl, rfl, HS.out⟩
  · rfl
  (try simp only [Act.put, List.setIfInBounds_toArray, List.set_cons_succ, List.set_cons_zero])
  apply walked_cons
  · intro wS hS
    have HS := Lib.hid hS
    clear hS
    go_wp2
    exact ⟨rfl, rfl, HS.out⟩
  · rfl
  (try simp only [Act.put, List.setIfInBounds_toArray, List.set_cons_succ, List.set_cons_zero])
  apply walked_cons
  · intro wS hS
    have HS := Lib.hid hS
    clear hS
    go_wp2
    exact ⟨rfl, rfl, HS.out⟩
  · rfl
  (try simp only [Act.put, List.setIfInBounds_toArray, List.set_cons_succ, List.set_cons_zero])
  apply walked_cons
  · intro wS hS
    have HS := Lib.hid hS
    obtain ⟨k1, -, -⟩ := of_block (st_pts hS.1)
    obtain ⟨k2, -, -⟩ := of_block hS.2
    clear hS
    go_wp2
    exact ⟨rfl, rfl, HS.out⟩
  · rfl
  (try simp only [Act.put, List.setIfInBounds_toArray, List.set_cons_succ, List.set_cons_zero])
  apply walked_cons
  · intro wS hS
    have HS := Lib.hid hS
    clear hS
    go_wp2
    exact ⟨rfl, rfl, HS.out⟩
  · rfl
  (try simp only [Act.put, List.setIfInBounds_toArray, List.set_cons_succ, List.set_cons_zero])
  apply walked_cons
  · intro wS hS
    have HS := Lib.hid hS
    clear hS
    go_wp2
    exact ⟨rfl, rfl, HS.out⟩
  · rfl
  (try simp only [Act.put, List.setIfInBounds_toArray, List.set_cons_succ, List.set_cons_zero])
  apply walked_nil
  intro wS hS
  have HZ := Lib.hid (st_less hS.1)
  clear hS HS0 HC
  go_wp2
  refine Met.intro (hJ2 _ _ (by kernel_rfl) ?_ ?_)
  · refine ⟨i + 1, pg1, ops1, HLT.out.1, HLT.out.2.1, ?_, by show Value.int .i64 ((i : Int) + 1) = _; simp, ?_⟩
    · have := HLT.out; have := HO.out; omega
    · have h9 := HZ.out
      rw [← HLI.out, ← HLE.out, show 4096 * i + 4096 = 4096 * (i + 1) by omega] at h9
      exact h9
  · have := HLT.out.2
    rw [H13.out]; show 40 - (intOf (Value.int .i64 ((i : Int) + 1))).toNat < 40 - (intOf (Value.int .i64 (i : Int))).toNat
    simp [intOf]; omega
end Go.Proofs.Ytfiofjalpaeohaa
