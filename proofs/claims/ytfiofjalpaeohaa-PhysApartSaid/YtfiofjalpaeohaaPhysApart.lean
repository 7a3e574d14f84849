/- The statement PhysApart: its walk. -/
import Derived.Test.YtfiofjalpaeohaaPhysKeeps
import Derived.Test.YtfiofjalpaeohaaPage3
namespace Go.Proofs.Ytfiofjalpaeohaa
set_option linter.unusedVariables false
set_option linter.unusedSimpArgs false
open Go.RowKit

/-- Two memories and a page in one world. -/
structure TM (w : World) (pm pn : Nat) (Y Z : Nat → Prop) (g c : Nat) (P : List Nat) (pgm : Int → Option (List Nat)) (om on : Nat) (x : World) : Prop where
  hm : IsMem x Y pm 4 pgm om
  hn : IsMem x Z pn 4 (fun _ => none) on
  row : Row x 0 g c P
  ho : Old w x
  yz : ∀ b, ¬ Y b → Z b
  gy : Y g
  gz : Z g
  wy : ∀ b, b < w.heap.size → Y b ∧ Z b
section
variable {w x y : World} {pm pn : Nat} {Y Z : Nat → Prop} {g c : Nat} {P : List Nat} {pgm : Int → Option (List Nat)} {om on : Nat}
theorem tm_old (h : TM w pm pn Y Z g c P pgm om on x) (ho : Old x y) : TM w pm pn Y Z g c P pgm om on y :=
  { h with hm := mem_old h.hm ho, hn := mem_old h.hn ho, row := row_old h.row ho, ho := old_then h.ho ho }
theorem tm_readm (h : TM w pm pn Y Z g c P pgm om on x) (addr : Nat) (ha : addr < 18446744073709551616) (he : placeE 4 addr 8 = 0) (hb : om < 4611686018427387904) :
    Calls Try.prog 48 #[.pointer (some ⟨pm, 0, none⟩), .int .u64 (addr : Nat), .int .i64 8] x (fun e y => e = .returned (.tuple #[.int .u64 (wordOf pgm addr 8 : Nat), .int .i64 0]) ∧ TM w pm pn Y Z g c P pgm (om + 1) on y) :=
  (read_ok2 h.hm addr ha 8 he hb).mono fun e y hr => ⟨hr.1, { h with
    hm := hr.2.1
    hn := mem_only h.hn hr.2.2 (fun b hz hy => hy (Classical.byContradiction fun f => hz (h.yz b f)))
    row := row_only h.row hr.2.2 (fun f => f h.gy)
    ho := old_stepM h.ho hr.2.2 (fun b hb => by
      rcases Nat.lt_or_ge b w.heap.size with h' | h'
      · exact absurd (h.wy b h').1 hb
      · exact h') }⟩
theorem tm_readn (h : TM w pm pn Y Z g c P pgm om on x) (addr : Nat) (ha : addr < 18446744073709551616) (he : placeE 4 addr 8 = 0) (hb : on < 4611686018427387904) :
    Calls Try.prog 48 #[.pointer (some ⟨pn, 0, none⟩), .int .u64 (addr : Nat), .int .i64 8] x (fun e y => e = .returned (.tuple #[.int .u64 (wordOf (fun _ => none) addr 8 : Nat), .int .i64 0]) ∧ TM w pm pn Y Z g c P pgm om (on + 1) y) :=
  (read_ok2 h.hn addr ha 8 he hb).mono fun e y hr => ⟨hr.1, { h with
    hm := mem_only h.hm hr.2.2 (fun b hy hz => hz (h.yz b hy))
    hn := hr.2.1
    row := row_only h.row hr.2.2 (fun f => f h.gz)
    ho := old_stepM h.ho hr.2.2 (fun b hb => by
      rcases Nat.lt_or_ge b w.heap.size with h' | h'
      · exact absurd (h.wy b h').2 hb
      · exact h') }⟩
end
theorem getN_zeros (p k : Nat) : getN zeros4096 p k = 0 := by
  induction k with
  | zero => rfl
  | succ k ih =>
    rw [getN, ih, List.getD_eq_getElem?_getD]
    cases hx : zeros4096[p + k]? with
    | none => simp
    | some x => simp [zeros_mem x (List.mem_of_getElem? hx)]
theorem or_byte (W x : Nat) (hx : x < 256) (hW : W < 2 ^ 56) : bits .or .u64 ((W * 256 : Nat) : Int) (x : Int) = ((x + 256 * W : Nat) : Int) := by
  have hor : W * 256 ||| x = x + 256 * W := by
    rw [show W * 256 = 2 ^ 8 * W by omega, ← Nat.two_pow_add_eq_or_of_lt (show x < 2 ^ 8 by omega)]
    omega
  show IntKind.u64.wrap ((BitVec.ofInt 64 _ ||| BitVec.ofInt 64 _).toNat : Int) = _
  rw [BitVec.toNat_or, BitVec.ofInt_natCast, BitVec.ofInt_natCast, BitVec.toNat_ofNat, BitVec.toNat_ofNat, Nat.mod_eq_of_lt (by omega), Nat.mod_eq_of_lt (by omega), hor]
  exact IntWalk.u64_in _ (by omega)

set_option maxHeartbeats 8000000 in
set_option maxRecDepth 100000 in
theorem physApart_walk (ad : Option Addr) (at_ : List Int) (ca : Nat) (bd : Option Addr) (bs : List Nat) (cb : Nat) (f : Int) (_ : (Lit.int .i64 f).wf = true) (w : World) (hI : Ints w ad ca at_) (hBy : Bytes w bd cb bs) :
    Calls Try.prog 9 #[.slice ad at_.length ca, .slice bd bs.length cb, .int .i64 f] w (RetB w (.bool true)) := by
  obtain ⟨kk, hkk, hk4⟩ : ∃ kk : Nat, bits .and .i64 f 3 = (kk : Int) ∧ kk < 4 := ⟨(f % 4).toNat, by rw [i64_mask3]; omega, by omega⟩
  have hn1 : Calls Try.prog 47 #[.int .i64 4] w _ := physNew_calls 4 w (by decide) (by decide)
  have hn2 : ∀ x, Calls Try.prog 47 #[.int .i64 4] x _ := fun x => physNew_calls 4 x (by decide) (by decide)
  have HI := Lib.hid hI
  have HBy := Lib.hid hBy
  have HT := Lib.hid told5_calls
  have k1 : (kk : Int) < 4 := by omega
  have HK := Lib.hid hk4
  clear hI hBy hk4
  go_enter Try.func9, Try.ntmps9
  go_wp2_with fail
  (with_reducible refine hn1.mono ?_)
  rintro e x1 ⟨rfl, hO1, hz1, hM1⟩
  clear hn1
  go_wp2_with fail
  (with_reducible refine (hn2 x1).mono ?_)
  rintro e x2 ⟨rfl, hO2, hz2, hM2⟩
  clear hn2
  obtain ⟨pm, hpm⟩ : ∃ pm, pm = w.heap.size + 1 := ⟨_, rfl⟩
  obtain ⟨pn, hpn⟩ : ∃ pn, pn = x1.heap.size + 1 := ⟨_, rfl⟩
  rw [← hpm] at hM1 ⊢
  rw [← hpn] at hM2 ⊢
  have hpg := page3_calls ad at_ ca bd bs cb x2 (ints_old HI.out (old_then hO1 hO2)) (bytes_old HBy.out (old_then hO1 hO2))
  have H12 := Lib.hid (And.intro hO1 (And.intro hz1 (And.intro hO2 hz2)))
  have HM1 := Lib.hid hM1
  have HM2 := Lib.hid hM2
  clear hO1 hz1 hM1 hO2 hz2 hM2 hpm hpn
  go_wp2_with fail
  (with_reducible refine hpg.mono ?_)
  rintro e x3 ⟨g, c, rfl, hrow, hO3⟩
  obtain ⟨P, hP⟩ : ∃ P, pageN at_ bs (fewN at_ bs) = P := ⟨_, rfl⟩
  have hPl := pageN_length at_ bs (fewN at_ bs)
  rw [hP] at hrow hPl
  obtain ⟨hO1, hz1, hO2, hz2⟩ := H12.out
  have hgp := row_parts hrow
  -- the first memory, all other blocks outside
  have m1 := mem_more (Y := fun b => (b < w.heap.size ∨ x1.heap.size ≤ b)) (HM1.out (fun b => b < w.heap.size) (fun b hb => hb)) (fun b hb => hb)
  have m3 := mem_old (mem_old m1 hO2) hO3
  have m3' := mem_more (Y := fun b => (b < w.heap.size ∨ x1.heap.size ≤ b) ∧ b < x3.heap.size) m3 (fun b hb => .inl hb.1)
  have n2 := mem_more (Y := fun b => b < x1.heap.size ∨ x2.heap.size ≤ b) (HM2.out (fun b => b < x1.heap.size) (fun b hb => hb)) (fun b hb => hb)
  have n3 := mem_old n2 hO3
  have hset : Calls Try.prog 54 #[.pointer (some ⟨pm, 0, none⟩), .int .i64 kk, .slice (some ⟨g, 0, none⟩) 4096 c] x3 (fun e y => e = .returned (.int .i64 0) ∧
      ∃ Y : Nat → Prop, TM w pm pn Y (fun b => b < x1.heap.size ∨ x2.heap.size ≤ b) g c P (updP (fun _ => none) (kk : Int) (some P)) 0 0 y) := by
    refine (set_ok2 m3' (fun b hb => hb.2) (kk : Int) ⟨g, 0, none⟩ c P (hasB_yes HK.out) (row_bytes hrow) hPl).mono fun e y hr => ⟨hr.1, fun b => ((b < w.heap.size ∨ x1.heap.size ≤ b) ∧ b < x3.heap.size) ∨ y.heap.size ≤ b, ?_⟩
    have hs13 : w.heap.size ≤ x1.heap.size ∧ x1.heap.size ≤ x2.heap.size ∧ x2.heap.size ≤ x3.heap.size ∧ x3.heap.size ≤ y.heap.size := ⟨hO1.size, hO2.size, hO3.size, hr.2.2.size⟩
    have hr0 : Row x3 0 g c P := by
      refine ⟨⟨hrow.1.1, ?_⟩, hrow.2⟩
      rcases hrow.1.2 with h' | ⟨g', cap', cur, h', hb, rest⟩
      · exact .inl h'
      · exact .inr ⟨g', cap', cur, h', Nat.zero_le _, rest⟩
    have hgY : (g < w.heap.size ∨ x1.heap.size ≤ g) ∧ g < x3.heap.size := ⟨.inr (by omega), hgp.2.1⟩
    refine { hm := mem_more hr.2.1 (fun b hb => hb), hn := mem_only n3 hr.2.2 (fun b hz hy => hy ⟨.inr ?_, ?_⟩), row := row_only hr0 hr.2.2 (fun f => f hgY), ho := ?_, yz := ?_, gy := .inl hgY, gz := .inr hgp.1, wy := ?_ }
    · simp only [not_or, Nat.not_lt, Nat.not_le] at hz
      omega
    · simp only [not_or, Nat.not_lt, Nat.not_le] at hz
      omega
    · refine old_stepM (old_then hO1 (old_then hO2 hO3)) hr.2.2 (fun b hb => ?_)
      rcases Nat.lt_or_ge b w.heap.size with h' | h'
      · exact absurd ⟨.inl h', by omega⟩ hb
      · exact h'
    · intro b hb
      rcases Nat.lt_or_ge b x2.heap.size with h' | h'
      · rcases Nat.lt_or_ge b x1.heap.size with h'' | h''
        · exact .inl h''
        · exact absurd (.inl ⟨.inr h'', by omega⟩) hb
      · exact .inr h'
    · intro b hb
      exact ⟨.inl ⟨.inl hb, by omega⟩, .inl (by omega)⟩
  have HPL := Lib.hid hPl
  generalize (fun b => b < x1.heap.size ∨ x2.heap.size ≤ b) = Z at hset
  clear hpg hrow hO3 hP hO1 hz1 hO2 hz2 hgp m1 m3 m3' n2 n3 H12 HM1 HM2 hPl
  go_wp2_with fail
  (with_reducible refine hset.mono ?_)
  rintro e x4 ⟨rfl, Y, hT⟩
  have HT4 := Lib.hid hT
  clear hset hT
  obtain ⟨pgm, hpgm⟩ : ∃ pgm : Int → Option (List Nat), pgm = updP (fun _ => none) (kk : Int) (some P) := ⟨_, rfl⟩
  rw [← hpgm] at HT4
  have HPG := Lib.hid hpgm
  clear hpgm
  have hpage : pageOf pgm (kk : Int) = P := by rw [HPG.out, pageOf_upd]
  have HPage := Lib.hid hpage
  clear hpage
  go_wp2
  go_loopw [13, 14, 15, 16, 17, 18, 19, 20] (fun ii _ _ _ _ _ _ _ wr => ∃ q : Nat, ii = .int .i64 ((64 * q : Nat) : Int) ∧ q ≤ 64 ∧ TM w pm pn Y Z g c P pgm (8 * q) (8 * q) wr) (fun ii _ _ _ _ _ _ _ _ => (4160 - intOf ii).toNat)
  case atStart => exact ⟨0, rfl, by omega, HT4.out⟩
  case round =>
  clear HT4
  obtain ⟨q, rfl, hq, hT⟩ := hrel
  by_cases hq64 : q < 64
  · have HTq := Lib.hid hT
    obtain ⟨i, hi⟩ : ∃ i, i = 64 * q := ⟨_, rfl⟩
    rw [← hi]
    have HI64 := Lib.hid hi
    have i1 : (i : Int) < 4096 := by omega
    have i2 : (0 : Int) ≤ (i : Int) := by omega
    clear hT hi hq64 hq
    go_wp2
    obtain ⟨wo, hwo⟩ : ∃ wo : World, wo = wr := ⟨_, rfl⟩
    go_loopw [14, 15, 16, 17, 18, 19, 20] (fun jj _ _ _ _ _ _ wz => ∃ j : Nat, jj = .int .i64 (j : Int) ∧ j ≤ 8 ∧ TM w pm pn Y Z g c P pgm (8 * q + j) (8 * q + j) wz) (fun jj _ _ _ _ _ _ _ => (9 - intOf jj).toNat)
    case atStart => exact ⟨0, rfl, by omega, HTq.out⟩
    case round =>
    clear HTq hwo
    obtain ⟨j, rfl, hj, hT⟩ := hrel
    by_cases hj8 : j < 8
    · have hq64 : 8 * q + 64 ≤ 1000 := by have := HI64.out; omega
      obtain ⟨B, hB⟩ : ∃ B, B = i + 8 * j := ⟨_, rfl⟩
      obtain ⟨A, hA⟩ : ∃ A, A = kk * 4096 + B := ⟨_, rfl⟩
      have hB8 : B % 8 = 0 ∧ B + 8 ≤ 4096 := by have := HI64.out; omega
      have hA1 : A / 4096 = kk ∧ A % 4096 = B ∧ A < 18446744073709551616 := by have := HK.out; omega
      have hpl : placeE 4 A 8 = 0 := place_zero (s := 8) (.inr (.inr (.inr rfl))) (by omega) (by omega) (by have := HK.out; omega)
      have hw1 : wordOf pgm A 8 = getN P B 8 := by unfold wordOf; rw [hA1.1, hA1.2.1, HPage.out]; rfl
      have hw2 : wordOf (fun _ => none) A 8 = 0 := by unfold wordOf; exact getN_zeros _ _
      have hc := tm_readm hT A hA1.2.2 hpl (by omega)
      rw [hw1] at hc
      have hAI : (kk : Int) * 4096 + ((i : Int) + 8 * (j : Int)) = (A : Int) := by rw [hA, hB]; omega
      have hc2 := fun y (hy : TM w pm pn Y Z g c P pgm (8 * q + j + 1) (8 * q + j) y) => tm_readn hy A hA1.2.2 hpl (by omega)
      rw [hw2] at hc2
      have HC2 := Lib.hid hc2
      have HBB := Lib.hid (And.intro hB hB8)
      obtain ⟨V, hV⟩ : ∃ V, V = getN P B 8 := ⟨_, rfl⟩
      rw [← hV] at hc
      have HV := Lib.hid hV
      clear hc2 hA hB hB8 hA1 hpl hw1 hw2 hT hV hj
      go_wp2_with fail
      (with_reducible refine hc.mono ?_)
      rintro e y1 ⟨rfl, hT⟩
      have hc := HC2.out _ hT
      clear hT
      go_wp2_with fail
      (with_reducible refine hc.mono ?_)
      rintro e y2 ⟨rfl, hT⟩
      have HT2 := Lib.hid hT
      clear hc hT hAI HC2
      go_wp2
      go_loop [19, 20] (fun ww oo => ∃ t : Nat, t ≤ 8 ∧ oo = .int .i64 ((t : Int) - 1) ∧ ww = .int .u64 ((getN P (B + t) (8 - t) : Nat) : Int)) (fun _ oo => (intOf oo + 1).toNat)
      case atStart => exact ⟨8, by omega, rfl, rfl⟩
      case round =>
      obtain ⟨t, ht, rfl, rfl⟩ := hrel
      cases t with
      | zero =>
        have hge : ((0 : Nat) : Int) - 1 = -1 := rfl
        rw [hge]
        have hVV : getN P (B + 0) (8 - 0) = V := by rw [HV.out]; rfl
        rw [hVV]
        have hcmp : ((V : Int) != (V : Int)) = false := by simp
        clear hge hVV
        go_wp2
        go_roundw
        case rel => exact ⟨j + 1, by go_num, by omega, HT2.out⟩
        case measure => first | (simp [intOf]; done) | ((simp [intOf]) <;> omega)
      | succ u =>
        have e1 : ((u + 1 : Nat) : Int) - 1 = (u : Int) := by omega
        rw [e1]
        obtain ⟨x, hx⟩ : ∃ x, P[i + 8 * j + u]? = some x := ⟨_, List.getElem?_eq_getElem (by rw [HPL.out]; have := HBB.out; omega)⟩
        have cx := row_cell HT2.out.row hx
        have hx256 : x < 256 := HT2.out.row.2 x (List.mem_of_getElem? hx)
        have hlt := getN_lt HT2.out.row.2 (B + (u + 1)) (8 - (u + 1))
        have hfront : getN P (B + u) (8 - u) = x + 256 * getN P (B + (u + 1)) (8 - (u + 1)) := by
          rw [show 8 - u = 8 - (u + 1) + 1 by omega, getN_front]
          have : P.getD (B + u) 0 = x := by rw [List.getD_eq_getElem?_getD, HBB.out.1, hx]; rfl
          rw [this, show B + u + 1 = B + (u + 1) by omega]
        have hW56 : getN P (B + (u + 1)) (8 - (u + 1)) < 2 ^ 56 := Nat.lt_of_lt_of_le hlt (Nat.pow_le_pow_right (by decide) (by omega))
        have hor := or_byte (getN P (B + (u + 1)) (8 - (u + 1))) x hx256 hW56
        rw [← hfront] at hor
        have hF : ∃ F, F = getN P (B + u) (8 - u) := ⟨_, rfl⟩
        obtain ⟨F, hF⟩ := hF
        obtain ⟨W7, hW7⟩ : ∃ W7, W7 = getN P (B + (u + 1)) (8 - (u + 1)) := ⟨_, rfl⟩
        rw [← hW7] at hor hW56 ⊢
        rw [← hF] at hor
        have hsh : IntKind.u64.wrap ((W7 : Int) * 256) = ((W7 * 256 : Nat) : Int) := by rw [IntWalk.u64_in _ (by omega)]; omega
        have hxw : IntKind.u64.wrap (x : Int) = (x : Int) := IntWalk.u64_in _ (by omega)
        obtain ⟨W8, hW8⟩ : ∃ W8, W8 = W7 * 256 := ⟨_, rfl⟩
        rw [← hW8] at hor hsh
        have u8 : (u : Int) ≤ 7 := by omega
        have ub : (i : Int) + 8 * (j : Int) + 8 ≤ 4096 := by have := HBB.out; omega
        have HFF := Lib.hid hF
        clear hF hW7 hW8 hW56 hfront hlt hx e1 ht hx256
        go_wp2
        go_round
        case rel => exact ⟨u, by omega, rfl, by rw [HFF.out]⟩
        case measure => first | (simp [intOf]; done) | ((simp [intOf]) <;> omega)
    · obtain rfl : j = 8 := by omega
      have HT8 := Lib.hid hT
      clear hT
      go_wp2
      go_roundw
      case rel => exact ⟨q + 1, by rw [HI64.out]; first | rfl | (congr 1; omega), by have := HI64.out; omega, by have := HT8.out; rwa [show 8 * q + 8 = 8 * (q + 1) by omega] at this⟩
      case measure => simp only [intOf]; omega
  · obtain rfl : q = 64 := by omega
    have HT9 := Lib.hid hT
    have hT9 : Hid (∃ om : Nat, om = 512) := Lib.hid ⟨_, rfl⟩
    have b1 : (hasB 4 (kk : Int) && allZero (pageOf (fun _ => none) (kk : Int))) = true := by
      rw [hasB_yes HK.out]
      exact zeros_all
    obtain ⟨k1', hk1, hk1'⟩ : ∃ a : Nat, bits .and .i64 ((kk : Int) + 1) 3 = (a : Int) ∧ a = (kk + 1) % 4 := ⟨(kk + 1) % 4, by rw [i64_mask3]; omega, rfl⟩
    obtain ⟨k2', hk2, hk2'⟩ : ∃ a : Nat, bits .and .i64 ((kk : Int) + 2) 3 = (a : Int) ∧ a = (kk + 2) % 4 := ⟨(kk + 2) % 4, by rw [i64_mask3]; omega, rfl⟩
    have b2 : (hasB 4 (k1' : Int) && hasB 4 (k2' : Int) && decide (pageOf pgm (k1' : Int) = pageOf pgm (k2' : Int))) = true := by
      have h4 := HK.out
      rw [hasB_yes (by omega), hasB_yes (by omega), HPG.out, pageOf_other _ _ _ _ (by omega), pageOf_other _ _ _ _ (by omega)]
      simp; rfl
    have B1 := Lib.hid b1
    have B2 := Lib.hid b2
    clear hT b1 b2 hk1' hk2'
    go_wp2_with fail
    (with_reducible refine (HT.out _).mono ?_)
    rintro e y1 ⟨rfl, hO⟩
    have hT := tm_old HT9.out hO
    have hc := clear_calls hT.hn (kk : Int)
    rw [B1.out] at hc
    have HT1 := Lib.hid hT
    clear hT hO HT9
    go_wp2_with fail
    (with_reducible refine hc.mono ?_)
    rintro e y2 ⟨rfl, hO⟩
    have hT := tm_old HT1.out hO
    have hc := ops_calls hT.hm
    have HT2 := Lib.hid hT
    clear hT hO HT1
    go_wp2_with fail
    (with_reducible refine hc.mono ?_)
    rintro e y3 ⟨rfl, hO⟩
    have hT := tm_old HT2.out hO
    have hc := ops_calls hT.hn
    have HT3 := Lib.hid hT
    clear hT hO HT2
    go_wp2_with fail
    (with_reducible refine hc.mono ?_)
    rintro e y4 ⟨rfl, hO⟩
    have hT := tm_old HT3.out hO
    have hc := same_calls hT.hm (k1' : Int) (k2' : Int)
    rw [B2.out] at hc
    have HT4 := Lib.hid hT
    clear hT hO HT3
    go_wp2_with fail
    (with_reducible refine hc.mono ?_)
    rintro e y5 ⟨rfl, hO⟩
    have HO := Lib.hid (old_then HT4.out.ho hO)
    clear hO hc
    go_wp2
    go_ret
    exact ⟨rfl, HO.out⟩
end Go.Proofs.Ytfiofjalpaeohaa
