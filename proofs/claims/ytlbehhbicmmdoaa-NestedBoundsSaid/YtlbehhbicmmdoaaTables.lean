/- Layer 12's Tables: it tells two rows of words that are its own. -/
import Derived.Test.YtlbehhbicmmdoaaTabPair
import Derived.Test.YtlbehhbicmmdoaaCellsAt
import Derived.Test.YtlbehhbicmmdoaaDescNear2
import Derived.Test.YtlbehhbicmmdoaaDescEnc
import Derived.Test.YtlbehhbicmmdoaaDescN
import Derived.Deep.CutBlock
import Derived.Test.YtlbehhbicmmdoaaDescsArg
namespace Go.Proofs.Ytlbehhbicmmdoaa
set_option linter.unusedVariables false
set_option linter.unusedSimpArgs false
open Go.RowKit

theorem u64_some (X : Int) : ∃ n : Nat, n < 18446744073709551616 ∧ Value.int .u64 (IntKind.u64.wrap X) = Value.int .u64 (n : Nat) := by
  refine ⟨(IntKind.u64.wrap X).toNat, ?_, ?_⟩
  · rw [IntKind.wrap_u64]; omega
  · congr 1; rw [IntKind.wrap_u64]; omega
theorem less_some (a b : Int) : ∃ n : Nat, bits .andNot .u64 a b = (n : Int) := by
  obtain ⟨n, _, h⟩ := u64_some (bits .andNot .u64 a b)
  have e : IntKind.u64.wrap (bits .andNot .u64 a b) = bits .andNot .u64 a b := by show IntKind.u64.wrap (IntKind.u64.wrap _) = IntKind.u64.wrap _; simp only [IntKind.wrap_u64]; omega
  rw [e] at h
  exact ⟨n, by injection h⟩
theorem xor_some (a b : Int) : ∃ n : Nat, n < 18446744073709551616 ∧ bits .xor .u64 a b = (n : Int) := by
  obtain ⟨n, h0, h⟩ := u64_some (bits .xor .u64 a b)
  have e : IntKind.u64.wrap (bits .xor .u64 a b) = bits .xor .u64 a b := by show IntKind.u64.wrap (IntKind.u64.wrap _) = IntKind.u64.wrap _; simp only [IntKind.wrap_u64]; omega
  rw [e] at h
  exact ⟨n, h0, by injection h⟩
theorem enc_ltT {st lv k : Int} {a : Nat} {r wr x : Bool} {s : Nat} (h : checkC st lv k a r wr x (s : Nat) = 0) : encW st lv k a r wr x (s : Nat) < 18446744073709551616 := by
  unfold encW
  split
  · rename_i h2
    exact (dec_word h2.2 h).2.1
  · decide
theorem enc_lt64 (st lv k : Int) (a : Nat) (r wr x : Bool) (s : Int) : encW st lv k a r wr x s < 18446744073709551616 := by
  by_cases h : checkC st lv k a r wr x s = 0
  · by_cases hs : s < 0
    · unfold encW
      rw [if_neg (by rintro ⟨h1, _⟩; unfold checkC at h1; rw [if_pos (by omega)] at h1; cases h1)]
      decide
    · obtain ⟨n, rfl⟩ : ∃ n : Nat, s = n := ⟨s.toNat, by omega⟩
      exact enc_ltT h
  · unfold encW; rw [if_neg (by simp [h])]; decide
/-- What Tables tells. -/
def WordsOk (l : List Nat) : Prop := l.length ≤ 4 ∧ ∀ a ∈ l, a < 18446744073709551616
theorem wordsOk_snoc {l : List Nat} {a : Nat} (hl : l.length < 4) (h : WordsOk l) (ha : a < 18446744073709551616) : WordsOk (l ++ [a]) :=
  ⟨by simp; omega, fun b hb => by
    rcases List.mem_append.1 hb with h' | h'
    · exact h.2 b h'
    · simp at h'; rw [h']; exact ha⟩
def RetTables (w : World) (e : Ending) (y : World) : Prop := ∃ v1 v2 A W, e = .returned (.agg #[v1, v2]) ∧ OwnW y w.heap.size v1 A ∧ OwnW y w.heap.size v2 W ∧ WordsOk A ∧ WordsOk W ∧ Old w y
/-- What holds ahead of each round. -/
structure TabAt (w : World) (rb i : Nat) (v1 v2 : Value) (A W : List Nat) (x : World) : Prop where
  r1 : OwnW x (rb + 2) v1 A
  r2 : OwnW x (rb + 2) v2 W
  dis : ∀ b, v1.ownBlock = some b → v2.ownBlock = some b → False
  hw : x.heap[rb + 1]? = some (.cells #[v1, v2] 26)
  hr : x.heap[rb]? = some (.cells #[.slice none 0 0, .slice none 0 0] 26)
  old : Old w x
  okA : WordsOk A
  okW : WordsOk W
  lA : A.length = i
  lW : W.length = i
  sB : rb + 2 ≤ x.heap.size
  hrb : rb = w.heap.size
theorem tab_old {w : World} {rb i : Nat} {v1 v2 : Value} {A W : List Nat} {x y : World} (h : TabAt w rb i v1 v2 A W x) (ho : Old x y) : TabAt w rb i v1 v2 A W y :=
  { h with r1 := own_old h.r1 ho, r2 := own_old h.r2 ho, hw := keep_old ho h.hw, hr := keep_old ho h.hr, old := old_then h.old ho, sB := Nat.le_trans h.sB ho.size }
theorem tab_only {w : World} {rb i : Nat} {v1 v2 : Value} {A W : List Nat} {x y : World} (h : TabAt w rb i v1 v2 A W x) (q : Nat) (ho : Only (fun b => b = q) x y) (hq : rb + 2 ≤ q) (h1 : v1.ownBlock ≠ some q) (h2 : v2.ownBlock ≠ some q) : TabAt w rb i v1 v2 A W y :=
  { h with r1 := own_keep h.r1 ho (fun b hb e => h1 (by rw [← e]; exact hb)), r2 := own_keep h.r2 ho (fun b hb e => h2 (by rw [← e]; exact hb)), hw := keep_only ho (fun e => by omega) h.hw, hr := keep_only ho (fun e => by omega) h.hr, old := Only.below ((Only.of_below h.old).mono (G := fun b => w.heap.size ≤ b) (fun _ _ f => f.elim) |>.trans (ho.mono fun b _ e => by have := h.hrb; omega)) (Nat.le_refl _), sB := Nat.le_trans h.sB ho.size }
theorem tab_start (W0 : World) (rb : Nat) (h : rb = W0.heap.size) : TabAt W0 rb 0 (.slice none 0 0) (.slice none 0 0) [] [] ((W0.alloc (.cells #[.slice none 0 0, .slice none 0 0] 26)).alloc (.cells #[.slice none 0 0, .slice none 0 0] 26)) :=
  { r1 := own_nil, r2 := own_nil, dis := fun b h => by simp [Value.ownBlock] at h
    hw := by have := new_block (W0.alloc (.cells #[.slice none 0 0, .slice none 0 0] 26)) (.cells #[.slice none 0 0, .slice none 0 0] 26); rw [World.size_alloc] at this; rw [h]; exact this
    hr := by rw [h]; exact keep_alloc _ (new_block _ _)
    old := old_alloc (old_alloc (old_refl _) _) _
    okA := ⟨by simp, fun a h => by cases h⟩, okW := ⟨by simp, fun a h => by cases h⟩, lA := rfl, lW := rfl
    sB := by simp only [World.size_alloc]; omega
    hrb := h }
/-- The two rows behind the statement that grows both. -/
theorem tab_pair {w : World} {rb i at_ X : Nat} {v1 v2 : Value} {A W : List Nat} {x0 x : World} {l : Array Bool} {g3 g4 g8 g9 : Value} (h : TabAt w rb i v1 v2 A W x0) (hi : i < 4) (ha : at_ < 18446744073709551616) (hX : X < 18446744073709551616)
    (hp : PairW x0 (rb + 2) (rb + 1) at_ X v1 v2 A W l g3 g4 g8 g9 x) (l4 : l.getD 4 false = true) (l9 : l.getD 9 false = true) (l11 : l.getD 11 false = true) (l13 : l.getD 13 false = true) : TabAt w rb (i + 1) g4 g9 (A ++ [at_]) (W ++ [X]) x := by
  obtain ⟨a1, a2, a3, a4, a5, a6, a7, a8, a9, b1, b2, b3, b4, b5⟩ := hp
  rw [l4] at a1
  rw [l9] at a2
  rw [l4, l9] at a3
  rw [l11, l13] at a6
  exact { r1 := a1, r2 := a2, dis := a3, hw := a6, hr := keep_only a7 (fun e => by omega) h.hr, old := Only.below ((Only.of_below h.old).mono (G := fun b => w.heap.size ≤ b) (fun _ _ f => f.elim) |>.trans (a7.mono fun b _ e => by have := h.hrb; omega)) (Nat.le_refl _), okA := wordsOk_snoc (by rw [h.lA]; exact hi) h.okA ha, okW := wordsOk_snoc (by rw [h.lW]; exact hi) h.okW hX, lA := by simp [h.lA], lW := by simp [h.lW], sB := b4, hrb := h.hrb }
theorem pair_start {w : World} {rb i at_ X : Nat} {v1 v2 : Value} {A W : List Nat} {x0 : World} {g3 g4 g8 g9 : Value} (h : TabAt w rb i v1 v2 A W x0) (N : Nat) : PairW x0 (rb + 2) (rb + 1) at_ X v1 v2 A W (Array.replicate N false) g3 g4 g8 g9 x0 := by
  have e : ∀ k, (Array.replicate N false).getD k false = false := fun k => by simp [Array.getElem?_replicate]; split <;> rfl
  constructor <;> (try simp only [e])
  · exact h.r1
  · exact h.r2
  · exact h.dis
  · exact fun h => by cases h
  · exact fun h => by cases h
  · exact h.hw
  · exact Only.refl _ _
  · exact fun h => by cases h
  · exact fun h => by cases h
  · exact fun h => by cases h
  · exact fun h => by cases h
  · exact fun h => by cases h
  · exact h.sB
  · omega

set_option maxHeartbeats 16000000 in
set_option maxRecDepth 100000 in
theorem tables_calls (st : Int) (hst : st = 1 ∨ st = 2) (root addr : Nat) (ad ad2 : Option Addr) (ds : List D6) (cap : Nat) (rs : List Nat) (c2 : Nat) (levels : Int) (w : World) (hds : ds.length ≤ maxLen) (hD : Descs w ad ds) (hW : Words w ad2 c2 rs) :
    Calls Try.prog 14 #[.int .i64 st, .int .u64 (root : Nat), .int .u64 (addr : Nat), .slice ad ds.length cap, .slice ad2 rs.length c2, .int .i64 levels] w (RetTables w) := by
  have hd63 : ds.length ≤ 9223372036854775807 := by unfold maxLen at hds; omega
  have hr63 : rs.length ≤ 9223372036854775807 := by have := hW.1; have := hW.2.1; unfold maxLen at this; omega
  have HD := Lib.hid hD
  have HW := Lib.hid hW
  clear hds hD hW
  go_enter Try.func14, Try.ntmps14
  go_upto_region 2 with (fail)
  have hT := tab_start w w.heap.size rfl
  generalize (w.alloc (.cells #[.slice none 0 0, .slice none 0 0] 26)).alloc (.cells #[.slice none 0 0, .slice none 0 0] 26) = W0 at *
  generalize w.heap.size = rb at *
  have HT := Lib.hid hT
  clear hT
  go_upto_block 0 with (fail)
  refine wp_cutF [false, false, false, false, false, false, false, false, false, false, false, false, false, false, true, true, true, true, true, true, true, true, true, true, true, true, true, true, true, true, true, true, true, true, true, true, true, true, true, true, true, true, true, true, true, true, true, true, true, true, true, true, true, true, true, true, true, true, true, true, true, true, true, true, true, true, true, true, true, true, true, true, true, true, true, true, true, true, true, true, true, true, true, true, true, true, true, true, true, true, true, true, true, true, true] (fun f wx => ∃ i v1 v2 A W, TabAt w rb i v1 v2 A W wx ∧ i ≤ 4) ?rest1 ?first1
  case rest1 =>
    intro f1 wx hcut
    dsimp only [mergeA, mergeL, Nat.reduceAdd]
    obtain ⟨i, v1, v2, A, W, hT, hi⟩ := hcut
    have HT2 := Lib.hid hT
    obtain ⟨k1, q1, z1⟩ := of_block hT.hw
    have hst2 := hT.hr
    clear hT
    go_wp2_with (refine wpList_store_at rfl 26 _ _ rfl rb 0 [v1, v2] rfl rfl 26 _ HT2.out.hr (by kernel_rfl) (Nat.le_of_eq rfl) (by intro v hv; simp only [List.mem_cons, List.not_mem_nil, or_false] at hv; obtain ⟨_, _, rfl, -⟩ := own_value HT2.out.r1; obtain ⟨_, _, rfl, -⟩ := own_value HT2.out.r2; rcases hv with rfl | rfl <;> rfl) ?_)
    have k9 := fun i => putB_cell_same (w := wx) #[v1, v2] 26 (0, 0) i (lt_of_block HT2.out.hr)
    refine bodyPost_ret (by simp [results, Try.results14, go_sem, k9]; try rfl) rfl ?_
    have hrb := HT2.out.hrb
    have hp : Only (fun b => b = rb) wx (putB wx rb (.cells #[v1, v2] 26)) := (Only.refl _ wx).putB _ (fun _ => rfl)
    refine ⟨v1, v2, A, W, rfl, ?_, ?_, HT2.out.okA, HT2.out.okW, ?_⟩
    · exact own_mono (own_keep HT2.out.r1 hp (fun b hb e => by have := (HT2.out.r1.lt b hb).1; omega)) (by omega)
    · exact own_mono (own_keep HT2.out.r2 hp (fun b hb e => by have := (HT2.out.r2.lt b hb).1; omega)) (by omega)
    · exact Only.below ((Only.of_below HT2.out.old).mono (G := fun b => w.heap.size ≤ b) (fun _ _ f => f.elim) |>.trans (hp.mono fun b _ e => by omega)) (Nat.le_refl _)
  case first1 =>
    intro J1 K1 hJ1 hM1
    go_wp2
    refine wp_loopF [false, false, false, false, false, false, false, false, false, false, false, false, false, false, true, true, true, true, true, true, false, true, true, true, true, true, true, true, true, true, true, true, true, true, true, true, true, true, true, true, true, true, true, true, true, true, true, true, true, true, true, true, true, true, true, true, true, true, true, true, true, true, true, true, true, true, true, true, true, true, true, true, true, true, true, true, true, true, true, true, true, true, true, true, true, true, true, true, true, true, true, true, true, true, true] (fun f wx => ∃ (i : Nat) (t : Nat) (v1 v2 : Value) (A W : List Nat), i ≤ 4 ∧ f 15 = .int .i64 (i : Nat) ∧ f 14 = .int .u64 (t : Nat) ∧ TabAt w rb i v1 v2 A W wx) (fun f => 4 - (intOf (f 15)).toNat) ?start2 ?round2
    case start2 => exact ⟨0, root, _, _, [], [], by omega, rfl, rfl, HT.out⟩
    case round2 =>
      intro f2 wr hrel J2 K2 hJ2 hM2
      dsimp only [mergeA, mergeL, Nat.reduceAdd]
      clear HT
      obtain ⟨i, t, v1, v2, A, W, hi, h15, h14, hT⟩ := hrel
      rw [h15, h14]
      have H15 := Lib.hid h15
      have HT := Lib.hid hT
      have hi5 : (i : Int) ≤ 4 := by omega
      clear h15 h14 hT
      by_cases h4 : i = 4
      · subst h4
        clear hi
        go_wp2
        exact Met.intro (hJ1 _ _ (by kernel_rfl) ⟨_, _, _, _, _, HT.out, by omega⟩)
      · have e1 : (i : Int) < 4 := by omega
        by_cases hil : i < ds.length
        · have e2 : (i : Int) < ds.length := by omega
          have hlt4 : i < 4 := by omega
          obtain ⟨d, hd⟩ : ∃ d, ds[i]? = some d := ⟨_, List.getElem?_eq_getElem hil⟩
          obtain ⟨_, b0, off, rfl, hb0, hdc⟩ := descs_old HD.out HT.out.old i d hd
          obtain ⟨dk, da, dr, dw, dx, dS⟩ := d
          have hdc : ∀ (c : Nat) (v : Value), [Value.int .i64 dk, .int .u64 (da : Nat), .bool dr, .bool dw, .bool dx, .int .i64 dS][c]? = some v → wr.cell? ⟨b0, off + i * 6 + c, none⟩ = some v := hdc
          have HDC := Lib.hid hdc
          have hP : Place st (i : Nat) := ⟨hst, by omega⟩
          have hnear := near_calls st (i : Nat) dk da dr dw dx dS wr hP
          have HI := Lib.hid (And.intro hlt4 (And.intro hil hP))
          unfold nearV at hnear
          generalize nearK (i : Nat) dk = mk at hnear
          generalize nearA st (i : Nat) dk da = ma at hnear
          generalize nearR (i : Nat) dk dr = mr at hnear
          generalize nearW (i : Nat) dk dr dw = mw at hnear
          generalize nearR (i : Nat) dk dx = mx at hnear
          generalize (nearS (i : Nat) dk dS : Nat) = ms at hnear
          have hzb := fun (x : World) => new_block x (.cells #[Value.int .i64 0, .int .u64 0, .bool false, .bool false, .bool false, .int .i64 0] 48)
          have HZB := Lib.hid hzb
          clear hi h4 hil hd hb0 hdc hP hzb
          go_wp2_with (refine wpList_load_at rfl 48 _ rfl b0 (off + i * 6) rfl [Value.int .i64 dk, .int .u64 (da : Nat), .bool dr, .bool dw, .bool dx, .int .i64 dS] _ HDC.out Try.underlying48 rfl (by kernel_rfl) ?_)
          (with_reducible refine hnear.mono ?_)
          rintro e w1 ⟨rfl, hO1⟩
          have HO1 := Lib.hid hO1
          clear hnear hO1 HDC
          go_upto_region 7 with (fail)
          have hO2 := old_then HO1.out (old_alloc (old_refl w1) (.cells #[Value.int .i64 mk, .int .u64 (ma : Nat), .bool mr, .bool mw, .bool mx, .int .i64 (ms : Nat)] 48))
          have hnb := new_block w1 (.cells #[Value.int .i64 mk, .int .u64 (ma : Nat), .bool mr, .bool mw, .bool mx, .int .i64 (ms : Nat)] 48)
          have hT2 := tab_old HT.out hO2
          have hfar : (rb + 2 ≤ w1.heap.size ∧ v1.ownBlock ≠ some w1.heap.size) ∧ v2.ownBlock ≠ some w1.heap.size := by
            have h1 := HO1.out.size
            refine ⟨⟨Nat.le_trans HT.out.sB h1, fun e => ?_⟩, fun e => ?_⟩
            · have := (HT.out.r1.lt _ e).2; omega
            · have := (HT.out.r2.lt _ e).2; omega
          generalize w1.alloc (.cells #[Value.int .i64 mk, .int .u64 (ma : Nat), .bool mr, .bool mw, .bool mx, .int .i64 (ms : Nat)] 48) = W1 at *
          generalize w1.heap.size = nb at *
          have HT := Lib.hid hT2
          have HN := Lib.hid (And.intro hnb hfar)
          clear hO2 hnb hT2 hfar HO1 HZB
          refine wp_cutF [false, false, false, false, false, false, false, false, false, false, false, false, false, false, false, false, false, false, false, false, false, true, true, true, true, true, true, true, true, true, true, true, true, true, true, true, true, true, true, true, true, true, true, true, true, true, true, true, true, true, true, true, true, true, true, true, true, true, true, true, true, true, true, true, true, true, true, true, true, true, true, true, true, true, true, true, true, true, true, true, true, true, true, true, true, true, true, true, true, true, true, true, true, true, true] (fun f x => ∃ c, f 44 = .bool c ∧ x = W1) ?rest3 ?first3
          case first3 =>
            intro J3 K3 hJ3 hM3
            by_cases hv : (i : Int) < levels
            · by_cases h3 : (i : Int) < 3
              · go_wp2
                exact Met.intro (hJ3 _ _ (by kernel_rfl) ⟨_, rfl, rfl⟩)
              · go_wp2
                exact Met.intro (hJ3 _ _ (by kernel_rfl) ⟨_, rfl, rfl⟩)
            · go_wp2
              exact Met.intro (hJ3 _ _ (by kernel_rfl) ⟨_, rfl, rfl⟩)
          case rest3 =>
          intro f3 x3 hcut
          dsimp only [mergeA, mergeL, Nat.reduceAdd]
          obtain ⟨cb, h44, rfl⟩ := hcut
          rw [h44]
          clear h44
          go_upto_if 44 with (fail)
          refine wp_cutF [false, false, false, false, false, false, false, false, false, false, false, false, false, false, false, false, false, false, false, false, false, true, true, true, true, true, true, true, true, true, true, true, true, true, true, true, true, true, true, true, true, true, true, true, true, true, true, true, true, true, true, true, true, true, true, true, true, true, true, true, true, true, true, true, true, true, true, true, true, true, true, true, true, true, true, true, true, true, true, true, true, true, true, true, true, true, true, true, true, true, true, true, true, true, true] (fun f x => ∃ (k' : Int) (a' : Nat) (r' w' x' : Bool) (s' : Int), x.heap[nb]? = some (.cells #[Value.int .i64 k', .int .u64 (a' : Nat), .bool r', .bool w', .bool x', .int .i64 s'] 48) ∧ TabAt w rb i v1 v2 A W x) ?rest4 ?first4
          case first4 =>
            intro J4 K4 hJ4 hM4
            cases cb
            · go_wp2
              exact Met.intro (hJ4 _ _ (by kernel_rfl) ⟨_, _, _, _, _, _, HN.out.1, HT.out⟩)
            · obtain ⟨k1, q1, z1⟩ := of_block HN.out.1
              obtain ⟨n4, hn4⟩ : ∃ n : Nat, bits .andNot .u64 (ma : Int) 4095 = (n : Int) := less_some _ _
              go_wp2_with (refine wpList_store_at rfl 48 _ _ rfl nb 0 [Value.int .i64 1, .int .u64 (n4 : Nat), .bool false, .bool false, .bool false, .int .i64 0] rfl rfl 48 _ HN.out.1 (by kernel_rfl) (Nat.le_of_eq rfl) (by intro v hv; simp only [List.mem_cons, List.not_mem_nil, or_false] at hv; rcases hv with rfl | rfl | rfl | rfl | rfl | rfl <;> rfl) ?_)
              refine Met.intro (hJ4 _ _ (by kernel_rfl) ⟨_, _, _, _, _, _, putB_same _ (lt_of_block HN.out.1), ?_⟩)
              exact tab_only HT.out nb ((Only.refl _ _).putB _ (fun _ => rfl)) HN.out.2.1.1 HN.out.2.1.2 HN.out.2.2
          case rest4 =>
          intro f4 x4 hcut
          dsimp only [mergeA, mergeL, Nat.reduceAdd]
          obtain ⟨k', a', r', w', x', s', hnb4, hT4⟩ := hcut
          have HT := Lib.hid hT4
          have HN4 := Lib.hid hnb4
          obtain ⟨k1, q1, z1⟩ := of_block hnb4
          have henc := refEncode_calls st (i : Nat) k' a' r' w' x' s' x4
          have hlt := enc_lt64 st (i : Nat) k' a' r' w' x' s'
          generalize encW st (i : Nat) k' a' r' w' x' s' = X0 at *
          generalize checkC st (i : Nat) k' a' r' w' x' s' = CC at *
          have HX0 := Lib.hid hlt
          clear hnb4 hT4 hlt
          go_wp2_with fail
          (with_reducible refine henc.mono ?_)
          rintro e x5 ⟨rfl, hO5⟩
          have HT5 := Lib.hid (tab_old HT.out hO5)
          have HN5 := Lib.hid (keep_old hO5 HN4.out)
          clear henc hO5 k1 q1 z1
          go_upto_region 10 with (fail)
          refine wp_cutF [false, false, false, false, false, false, false, false, false, false, false, false, false, false, false, false, false, false, false, false, false, true, true, true, true, true, true, true, true, true, true, true, true, true, true, true, true, true, true, true, true, true, true, true, true, true, true, true, true, true, true, true, true, true, true, true, true, true, true, true, true, true, true, true, true, true, true, true, true, true, true, true, true, true, true, true, true, true, true, true, true, true, true, true, true, true, true, true, true, true, true, true, true, true, true] (fun f x => ∃ c, f 64 = .bool c ∧ (c = true → i < rs.length) ∧ x = x5) ?rest5 ?first5
          case first5 =>
            intro J5 K5 hJ5 hM5
            by_cases hv : (i : Int) < rs.length
            · have hv2 : i < rs.length := by omega
              have HV := Lib.hid hv2
              clear hv2
              by_cases h3 : levels ≤ (i : Int)
              · go_wp2
                exact Met.intro (hJ5 _ _ (by kernel_rfl) ⟨_, rfl, fun _ => HV.out, rfl⟩)
              · go_wp2
                exact Met.intro (hJ5 _ _ (by kernel_rfl) ⟨_, rfl, fun _ => HV.out, rfl⟩)
            · go_wp2
              exact Met.intro (hJ5 _ _ (by kernel_rfl) ⟨false, rfl, (fun e => by cases e), rfl⟩)
          case rest5 =>
          intro f5 x6 hcut
          dsimp only [mergeA, mergeL, Nat.reduceAdd]
          obtain ⟨cb, h64, hrl, rfl⟩ := hcut
          rw [h64]
          have HRL := Lib.hid hrl
          clear h64 hrl
          go_upto_if 64 with (fail)
          refine wp_cutF [false, false, false, false, false, false, false, false, false, false, false, false, false, false, false, false, false, true, false, false, false, true, true, true, true, true, true, true, true, true, true, true, true, true, true, true, true, true, true, true, true, true, true, true, true, true, true, true, true, true, true, true, true, true, true, true, true, true, true, true, true, true, true, true, true, true, true, true, true, true, true, true, true, true, true, true, true, true, true, true, true, true, true, true, true, true, true, true, true, true, true, true, true, true, true] (fun f x => ∃ X : Nat, X < 18446744073709551616 ∧ f 17 = .int .u64 (X : Nat) ∧ ∃ z, z = x ∧ Old x6 z) ?rest6 ?first6
          case first6 =>
            intro J6 K6 hJ6 hM6
            cases cb
            · go_wp2
              exact Met.intro (hJ6 _ _ (by kernel_rfl) ⟨X0, HX0.out, rfl, _, rfl, old_refl _⟩)
            · obtain ⟨xr, hxr⟩ : ∃ xr, rs[i]? = some xr := ⟨_, List.getElem?_eq_getElem (HRL.out rfl)⟩
              obtain ⟨_, b2, off2, rfl, hb2, hcr⟩ := (words_old HW.out HT5.out.old).2.2.2 i xr hxr
              have hil2 : (i : Int) < rs.length := by have := HRL.out rfl; omega
              obtain ⟨n5, h5, hn5⟩ := xor_some (X0 : Int) (xr : Int)
              have HX5 := Lib.hid h5
              clear h5 hxr hb2
              go_wp2
              exact Met.intro (hJ6 _ _ (by kernel_rfl) ⟨n5, HX5.out, (by first | rfl | (show Value.int .u64 _ = _; rw [hn5])), _, rfl, old_refl _⟩)
          case rest6 =>
          intro f6 x7 hcut
          dsimp only [mergeA, mergeL, Nat.reduceAdd]
          obtain ⟨X, hX, h17, z7, rfl, hO7⟩ := hcut
          rw [h17]
          have HT7 := Lib.hid (tab_old HT5.out hO7)
          have HN7 := Lib.hid (keep_old hO7 HN5.out)
          have HX := Lib.hid hX
          clear hX h17 hO7 HX0 HRL HT5 HN5
          go_upto_region 12 with (fail)
          refine wp_cutF [false, false, false, false, false, false, false, false, false, false, false, false, false, false, false, true, false, false, false, true, false, true, true, true, true, true, true, true, true, true, true, true, true, true, true, true, true, true, true, true, true, true, true, true, true, true, true, true, true, true, true, true, true, true, true, true, true, true, true, true, true, true, true, true, true, true, true, true, true, true, true, true, true, true, true, true, true, true, true, true, true, true, true, true, true, true, true, true, true, true, true, true, true, true, true] (fun f x => ∃ n : Nat, n < 18446744073709551616 ∧ f 19 = .int .u64 (n : Nat) ∧ f 15 = .int .i64 (i : Nat) ∧ z7 = x) ?rest7 ?first7
          case first7 =>
            intro J7 K7 hJ7 hM7
            have hI := HI.out.1
            clear HN7 HT7
            rcases (show i = 0 ∨ i = 1 ∨ i = 2 ∨ i = 3 by omega) with hi0 | hi0 | hi0 | hi0
            · have hi1 : (i : Int) = 0 := by omega
              rw [hi1]
              have HI1 := Lib.hid hi1
              clear hi1 hi0 hI
              go_wp2
              exact Met.intro (hJ7 _ _ (by kernel_rfl) ⟨_, (u64_some _).choose_spec.1, (u64_some _).choose_spec.2, (by show Value.int .i64 _ = _; rw [HI1.out]), rfl⟩)
            · have hi1 : (i : Int) = 1 := by omega
              rw [hi1]
              have HI1 := Lib.hid hi1
              clear hi1 hi0 hI
              go_wp2
              exact Met.intro (hJ7 _ _ (by kernel_rfl) ⟨_, (u64_some _).choose_spec.1, (u64_some _).choose_spec.2, (by show Value.int .i64 _ = _; rw [HI1.out]), rfl⟩)
            · have hi1 : (i : Int) = 2 := by omega
              rw [hi1]
              have HI1 := Lib.hid hi1
              clear hi1 hi0 hI
              go_wp2
              exact Met.intro (hJ7 _ _ (by kernel_rfl) ⟨_, (u64_some _).choose_spec.1, (u64_some _).choose_spec.2, (by show Value.int .i64 _ = _; rw [HI1.out]), rfl⟩)
            · have hi1 : (i : Int) = 3 := by omega
              rw [hi1]
              have HI1 := Lib.hid hi1
              clear hi1 hi0 hI
              go_wp2
              exact Met.intro (hJ7 _ _ (by kernel_rfl) ⟨_, (u64_some _).choose_spec.1, (u64_some _).choose_spec.2, (by show Value.int .i64 _ = _; rw [HI1.out]), rfl⟩)
          case rest7 =>
          intro f7 x8 hcut
          dsimp only [mergeA, mergeL, Nat.reduceAdd]
          obtain ⟨n, hn, h19, h15b, rfl⟩ := hcut
          rw [h19, h15b]
          have HNN := Lib.hid hn
          clear hn h19 h15b
          have hlA := HT7.out.lA
          have hlW := HT7.out.lW
          have HL := Lib.hid (And.intro (show A.length ≤ 1000 by have := HI.out.1; omega) (show W.length ≤ 1000 by have := HI.out.1; omega))
          clear hlA hlW
          go_upto_region 13 with (fail)
          refine wp_region_invF [false, false, false, false, false, false, false, false, false, false, false, false, false, false, false, false, false, false, false, false, false, false, false, false, false, false, false, false, false, false, false, false, false, false, false, false, false, false, false, false, false, false, false, false, false, false, false, false, false, false, false, false, false, false, false, false, false, false, false, false, false, false, false, false, false, false, false, false, false, false, false, false, false, false, false, false, false, false, false, false, false, true, true, true, true, true, true, true, true, true, true, true, true] (fun l f x => PairF (rb + 1) n X v1 v2 l (f 81) (f 82) (f 83) (f 86) (f 87) (f 88) (f 91) (f 92) ∧ PairW z7.drew (rb + 2) (rb + 1) n X v1 v2 A W l (f 84) (f 85) (f 89) (f 90) x ∧ x.heap[nb]? = some (.cells #[Value.int .i64 k', .int .u64 (a' : Nat), .bool r', .bool w', .bool x', .int .i64 s'] 48) ∧ (l.getD 4 false = true → l.getD 1 false = true) ∧ (l.getD 9 false = true → l.getD 6 false = true)) (by kernel_rfl) (by kernel_rfl) ⟨pairF_start _ _ _ _ _ _ _ _ _ _ _ _ _ _, pair_start (tab_old HT7.out (old_drew (old_refl _))) _, HN7.out, (fun e => by simp at e), (fun e => by simp at e)⟩ ?_ ?_
          · rintro j o ho l f x hl hn hmet ⟨hv, hp, hnb, hc4, hc9⟩
            have hj : j < 14 := (Array.getElem?_eq_some_iff.1 ho).1
            dsimp only [mergeA, mergeL, Nat.reduceAdd]
            have HV := Lib.hid hv
            have HP := Lib.hid hp
            have HB := Lib.hid hnb
            have HC := Lib.hid (And.intro hc4 hc9)
            clear hv hp hnb hc4 hc9
            obtain rfl | rfl | rfl | rfl | rfl | rfl | rfl | rfl | rfl | rfl | rfl | rfl | rfl | rfl : j = 0 ∨ j = 1 ∨ j = 2 ∨ j = 3 ∨ j = 4 ∨ j = 5 ∨ j = 6 ∨ j = 7 ∨ j = 8 ∨ j = 9 ∨ j = 10 ∨ j = 11 ∨ j = 12 ∨ j = 13 := by omega
            · obtain rfl := Option.some.inj ho
              clear hmet
              go_wp2
              exact ⟨by kernel_rfl, pairF_set 0 HV.out (by first | exact .inr rfl | exact .inl ⟨by decide, rfl⟩) (by first | exact .inr rfl | exact .inl ⟨by decide, rfl⟩) (by first | exact .inr rfl | exact .inl ⟨by decide, rfl⟩) (by first | exact .inr rfl | exact .inl ⟨by decide, rfl⟩) (by first | exact .inr rfl | exact .inl ⟨by decide, rfl⟩) (by first | exact .inr rfl | exact .inl ⟨by decide, rfl⟩) (by first | exact .inr rfl | exact .inl ⟨by decide, rfl⟩) (by first | exact .inr rfl | exact .inl ⟨by decide, rfl⟩), pairW_other 0 (by decide) (by decide) (by decide) (by decide) (by decide) (by decide) HP.out, HB.out, bits_keep 0 HC.out.1 (.inl (by decide)), bits_keep 0 HC.out.2 (.inl (by decide))⟩
            · obtain rfl := Option.some.inj ho
              have e0 := HV.out.1 (hmet _ rfl ⟨0, .data⟩ (by simp) rfl)
              rw [e0]
              clear e0
              have n11 : l.getD 11 false = false := false_of fun e => by
                have h1 := HP.out.o11 e
                have h2 := HC.out.1 h1
                rw [hn] at h2
                cases h2
              have hw := HP.out.hw
              rw [n11] at hw
              obtain ⟨q1, q2, q3⟩ := of_block hw
              have c1 := q1 0
              have c1 : x.cell? ⟨rb + 1, 0, none⟩ = some v1 := c1
              clear hw q1 q2 q3 n11 hmet
              go_wp2
              exact ⟨by kernel_rfl, pairF_set 1 HV.out (by first | exact .inr rfl | exact .inl ⟨by decide, rfl⟩) (by first | exact .inr rfl | exact .inl ⟨by decide, rfl⟩) (by first | exact .inr rfl | exact .inl ⟨by decide, rfl⟩) (by first | exact .inr rfl | exact .inl ⟨by decide, rfl⟩) (by first | exact .inr rfl | exact .inl ⟨by decide, rfl⟩) (by first | exact .inr rfl | exact .inl ⟨by decide, rfl⟩) (by first | exact .inr rfl | exact .inl ⟨by decide, rfl⟩) (by first | exact .inr rfl | exact .inl ⟨by decide, rfl⟩), pairW_other 1 (by decide) (by decide) (by decide) (by decide) (by decide) (by decide) HP.out, HB.out, bits_keep 1 HC.out.1 (.inl (by decide)), bits_keep 1 HC.out.2 (.inl (by decide))⟩
            · obtain rfl := Option.some.inj ho
              clear hmet
              go_wp2
              exact ⟨by kernel_rfl, pairF_set 2 HV.out (by first | exact .inr rfl | exact .inl ⟨by decide, rfl⟩) (by first | exact .inr rfl | exact .inl ⟨by decide, rfl⟩) (by first | exact .inr rfl | exact .inl ⟨by decide, rfl⟩) (by first | exact .inr rfl | exact .inl ⟨by decide, rfl⟩) (by first | exact .inr rfl | exact .inl ⟨by decide, rfl⟩) (by first | exact .inr rfl | exact .inl ⟨by decide, rfl⟩) (by first | exact .inr rfl | exact .inl ⟨by decide, rfl⟩) (by first | exact .inr rfl | exact .inl ⟨by decide, rfl⟩), pairW_other 2 (by decide) (by decide) (by decide) (by decide) (by decide) (by decide) HP.out, HB.out, bits_keep 2 HC.out.1 (.inl (by decide)), bits_keep 2 HC.out.2 (.inl (by decide))⟩
            · obtain rfl := Option.some.inj ho
              have e2 := HV.out.2.2.1 (hmet _ rfl ⟨2, .data⟩ (by simp) rfl)
              rw [e2]
              clear e2
              have hp := pairW_3 hl (by decide) hn HP.out
              have hb := keep_alloc (.cells #[.int .u64 (n : Nat)] 22) HB.out
              have HQ := Lib.hid (And.intro hp hb)
              clear hp hb hmet
              go_wp2
              exact ⟨by kernel_rfl, pairF_set 3 HV.out (by first | exact .inr rfl | exact .inl ⟨by decide, rfl⟩) (by first | exact .inr rfl | exact .inl ⟨by decide, rfl⟩) (by first | exact .inr rfl | exact .inl ⟨by decide, rfl⟩) (by first | exact .inr rfl | exact .inl ⟨by decide, rfl⟩) (by first | exact .inr rfl | exact .inl ⟨by decide, rfl⟩) (by first | exact .inr rfl | exact .inl ⟨by decide, rfl⟩) (by first | exact .inr rfl | exact .inl ⟨by decide, rfl⟩) (by first | exact .inr rfl | exact .inl ⟨by decide, rfl⟩), HQ.out.1, HQ.out.2, bits_keep 3 HC.out.1 (.inl (by decide)), bits_keep 3 HC.out.2 (.inl (by decide))⟩
            · obtain rfl := Option.some.inj ho
              have HM1 := Lib.hid (hmet _ rfl ⟨1, .data⟩ (by simp) rfl)
              obtain ⟨q, g, cg, y, eq, hrun, hp, hon⟩ := pairW_4 hl (by decide) hn (hmet _ rfl ⟨3, .data⟩ (by simp) rfl) HL.out.1 HP.out
              have e1 := HV.out.2.1 (hmet _ rfl ⟨1, .data⟩ (by simp) rfl)
              rw [e1]
              clear e1
              rw [eq]
              rw [eq] at hp
              have hb := keep_only hon (fun e => HN.out.2.1.2 e.symm) HB.out
              have HQ := Lib.hid (And.intro hp hb)
              clear hp hb hmet eq hon
              refine wpList_append_run rfl _ _ 24 rfl _ _ rfl rfl _ _ hrun ?_
              clear hrun
              (try simp only [Act.put, List.setIfInBounds_toArray, List.set_cons_succ, List.set_cons_zero])
              exact And.intro (by kernel_rfl) ⟨pairF_set 4 HV.out (by first | exact .inr rfl | exact .inl ⟨by decide, rfl⟩) (by first | exact .inr rfl | exact .inl ⟨by decide, rfl⟩) (by first | exact .inr rfl | exact .inl ⟨by decide, rfl⟩) (by first | exact .inr rfl | exact .inl ⟨by decide, rfl⟩) (by first | exact .inr rfl | exact .inl ⟨by decide, rfl⟩) (by first | exact .inr rfl | exact .inl ⟨by decide, rfl⟩) (by first | exact .inr rfl | exact .inl ⟨by decide, rfl⟩) (by first | exact .inr rfl | exact .inl ⟨by decide, rfl⟩), HQ.out.1, HQ.out.2, bits_keep 4 HC.out.1 (.inr HM1.out), bits_keep 4 HC.out.2 (.inl (by decide))⟩
            · obtain rfl := Option.some.inj ho
              clear hmet
              go_wp2
              exact ⟨by kernel_rfl, pairF_set 5 HV.out (by first | exact .inr rfl | exact .inl ⟨by decide, rfl⟩) (by first | exact .inr rfl | exact .inl ⟨by decide, rfl⟩) (by first | exact .inr rfl | exact .inl ⟨by decide, rfl⟩) (by first | exact .inr rfl | exact .inl ⟨by decide, rfl⟩) (by first | exact .inr rfl | exact .inl ⟨by decide, rfl⟩) (by first | exact .inr rfl | exact .inl ⟨by decide, rfl⟩) (by first | exact .inr rfl | exact .inl ⟨by decide, rfl⟩) (by first | exact .inr rfl | exact .inl ⟨by decide, rfl⟩), pairW_other 5 (by decide) (by decide) (by decide) (by decide) (by decide) (by decide) HP.out, HB.out, bits_keep 5 HC.out.1 (.inl (by decide)), bits_keep 5 HC.out.2 (.inl (by decide))⟩
            · obtain rfl := Option.some.inj ho
              have e5 := HV.out.2.2.2.1 (hmet _ rfl ⟨5, .data⟩ (by simp) rfl)
              rw [e5]
              clear e5
              have n13 : l.getD 13 false = false := false_of fun e => by
                have h1 := HP.out.o13 e
                have h2 := HC.out.2 h1
                rw [hn] at h2
                cases h2
              have hw := HP.out.hw
              rw [n13] at hw
              obtain ⟨q1, q2, q3⟩ := of_block hw
              have c6 := q1 1
              have c6 : x.cell? ⟨rb + 1, 1, none⟩ = some v2 := c6
              clear hw q1 q2 q3 n13 hmet
              go_wp2
              exact ⟨by kernel_rfl, pairF_set 6 HV.out (by first | exact .inr rfl | exact .inl ⟨by decide, rfl⟩) (by first | exact .inr rfl | exact .inl ⟨by decide, rfl⟩) (by first | exact .inr rfl | exact .inl ⟨by decide, rfl⟩) (by first | exact .inr rfl | exact .inl ⟨by decide, rfl⟩) (by first | exact .inr rfl | exact .inl ⟨by decide, rfl⟩) (by first | exact .inr rfl | exact .inl ⟨by decide, rfl⟩) (by first | exact .inr rfl | exact .inl ⟨by decide, rfl⟩) (by first | exact .inr rfl | exact .inl ⟨by decide, rfl⟩), pairW_other 6 (by decide) (by decide) (by decide) (by decide) (by decide) (by decide) HP.out, HB.out, bits_keep 6 HC.out.1 (.inl (by decide)), bits_keep 6 HC.out.2 (.inl (by decide))⟩
            · obtain rfl := Option.some.inj ho
              clear hmet
              go_wp2
              exact ⟨by kernel_rfl, pairF_set 7 HV.out (by first | exact .inr rfl | exact .inl ⟨by decide, rfl⟩) (by first | exact .inr rfl | exact .inl ⟨by decide, rfl⟩) (by first | exact .inr rfl | exact .inl ⟨by decide, rfl⟩) (by first | exact .inr rfl | exact .inl ⟨by decide, rfl⟩) (by first | exact .inr rfl | exact .inl ⟨by decide, rfl⟩) (by first | exact .inr rfl | exact .inl ⟨by decide, rfl⟩) (by first | exact .inr rfl | exact .inl ⟨by decide, rfl⟩) (by first | exact .inr rfl | exact .inl ⟨by decide, rfl⟩), pairW_other 7 (by decide) (by decide) (by decide) (by decide) (by decide) (by decide) HP.out, HB.out, bits_keep 7 HC.out.1 (.inl (by decide)), bits_keep 7 HC.out.2 (.inl (by decide))⟩
            · obtain rfl := Option.some.inj ho
              have e7 := HV.out.2.2.2.2.2.1 (hmet _ rfl ⟨7, .data⟩ (by simp) rfl)
              rw [e7]
              clear e7
              have hp := pairW_8 hl (by decide) hn HP.out
              have hb := keep_alloc (.cells #[.int .u64 (X : Nat)] 22) HB.out
              have HQ := Lib.hid (And.intro hp hb)
              clear hp hb hmet
              go_wp2
              exact ⟨by kernel_rfl, pairF_set 8 HV.out (by first | exact .inr rfl | exact .inl ⟨by decide, rfl⟩) (by first | exact .inr rfl | exact .inl ⟨by decide, rfl⟩) (by first | exact .inr rfl | exact .inl ⟨by decide, rfl⟩) (by first | exact .inr rfl | exact .inl ⟨by decide, rfl⟩) (by first | exact .inr rfl | exact .inl ⟨by decide, rfl⟩) (by first | exact .inr rfl | exact .inl ⟨by decide, rfl⟩) (by first | exact .inr rfl | exact .inl ⟨by decide, rfl⟩) (by first | exact .inr rfl | exact .inl ⟨by decide, rfl⟩), HQ.out.1, HQ.out.2, bits_keep 8 HC.out.1 (.inl (by decide)), bits_keep 8 HC.out.2 (.inl (by decide))⟩
            · obtain rfl := Option.some.inj ho
              have HM6 := Lib.hid (hmet _ rfl ⟨6, .data⟩ (by simp) rfl)
              obtain ⟨q, g, cg, y, eq, hrun, hp, hon⟩ := pairW_9 hl (by decide) hn (hmet _ rfl ⟨8, .data⟩ (by simp) rfl) (hmet _ rfl ⟨4, .chain⟩ (by simp) rfl) HL.out.2 HP.out
              have e6 := HV.out.2.2.2.2.1 (hmet _ rfl ⟨6, .data⟩ (by simp) rfl)
              rw [e6]
              clear e6
              rw [eq]
              rw [eq] at hp
              have hb := keep_only hon (fun e => HN.out.2.2 e.symm) HB.out
              have HQ := Lib.hid (And.intro hp hb)
              clear hp hb hmet eq hon
              refine wpList_append_run rfl _ _ 24 rfl _ _ rfl rfl _ _ hrun ?_
              clear hrun
              (try simp only [Act.put, List.setIfInBounds_toArray, List.set_cons_succ, List.set_cons_zero])
              exact And.intro (by kernel_rfl) ⟨pairF_set 9 HV.out (by first | exact .inr rfl | exact .inl ⟨by decide, rfl⟩) (by first | exact .inr rfl | exact .inl ⟨by decide, rfl⟩) (by first | exact .inr rfl | exact .inl ⟨by decide, rfl⟩) (by first | exact .inr rfl | exact .inl ⟨by decide, rfl⟩) (by first | exact .inr rfl | exact .inl ⟨by decide, rfl⟩) (by first | exact .inr rfl | exact .inl ⟨by decide, rfl⟩) (by first | exact .inr rfl | exact .inl ⟨by decide, rfl⟩) (by first | exact .inr rfl | exact .inl ⟨by decide, rfl⟩), HQ.out.1, HQ.out.2, bits_keep 9 HC.out.1 (.inl (by decide)), bits_keep 9 HC.out.2 (.inr HM6.out)⟩
            · obtain rfl := Option.some.inj ho
              clear hmet
              go_wp2
              exact ⟨by kernel_rfl, pairF_set 10 HV.out (by first | exact .inr rfl | exact .inl ⟨by decide, rfl⟩) (by first | exact .inr rfl | exact .inl ⟨by decide, rfl⟩) (by first | exact .inr rfl | exact .inl ⟨by decide, rfl⟩) (by first | exact .inr rfl | exact .inl ⟨by decide, rfl⟩) (by first | exact .inr rfl | exact .inl ⟨by decide, rfl⟩) (by first | exact .inr rfl | exact .inl ⟨by decide, rfl⟩) (by first | exact .inr rfl | exact .inl ⟨by decide, rfl⟩) (by first | exact .inr rfl | exact .inl ⟨by decide, rfl⟩), pairW_other 10 (by decide) (by decide) (by decide) (by decide) (by decide) (by decide) HP.out, HB.out, bits_keep 10 HC.out.1 (.inl (by decide)), bits_keep 10 HC.out.2 (.inl (by decide))⟩
            · obtain rfl := Option.some.inj ho
              have e10 := HV.out.2.2.2.2.2.2.1 (hmet _ rfl ⟨10, .data⟩ (by simp) rfl)
              rw [e10]
              clear e10
              have hp := pairW_11 hl (by decide) hn (hmet _ rfl ⟨4, .data⟩ (by simp) rfl) HP.out
              have HQ := Lib.hid hp
              have hb := keep_only (F := fun b => b = rb + 1) ((Only.refl _ x).putB (.cells #[f 85, bif l.getD 13 false then f 90 else v2] 26) (fun _ => rfl)) (fun e => by have := HN.out.2.1.1; omega) HB.out
              have HQB := Lib.hid hb
              have hset : x.setCell ⟨rb + 1, 0, none⟩ (f 85) = putB x (rb + 1) (.cells #[f 85, bif l.getD 13 false then f 90 else v2] 26) := by rw [set_of HP.out.hw]; rfl
              have hff : x.frozen? ⟨rb + 1, 0, none⟩ = false := frozen_of HP.out.hw _
              have hcc : x.cell? ⟨rb + 1, 0, none⟩ = some (bif l.getD 11 false then f 85 else v1) := by rw [cell_of HP.out.hw]; rfl
              obtain ⟨sa, sn, sc, hs⟩ : ∃ sa sn sc, f 85 = .slice sa sn sc := by
                have h9 := HP.out.r1
                rw [(hmet _ rfl ⟨4, .data⟩ (by simp) rfl : l.getD 4 false = true)] at h9
                obtain ⟨sa, sc, hs, -⟩ := own_value h9
                exact ⟨sa, _, sc, hs⟩
              obtain ⟨o2, ho2⟩ : ∃ o2, (bif l.getD 13 false then f 90 else v2) = o2 := ⟨_, rfl⟩
              rw [ho2] at hset hp hb
              rw [hn] at hcc
              rw [hs] at hset hp hb
              rw [hs]
              have HQ := Lib.hid hp
              have HQB := Lib.hid hb
              clear hp hb hmet hs ho2
              go_wp2
              exact ⟨by kernel_rfl, pairF_set 11 HV.out (by first | exact .inr rfl | exact .inl ⟨by decide, rfl⟩) (by first | exact .inr rfl | exact .inl ⟨by decide, rfl⟩) (by first | exact .inr rfl | exact .inl ⟨by decide, rfl⟩) (by first | exact .inr rfl | exact .inl ⟨by decide, rfl⟩) (by first | exact .inr rfl | exact .inl ⟨by decide, rfl⟩) (by first | exact .inr rfl | exact .inl ⟨by decide, rfl⟩) (by first | exact .inr rfl | exact .inl ⟨by decide, rfl⟩) (by first | exact .inr rfl | exact .inl ⟨by decide, rfl⟩), HQ.out, HQB.out, bits_keep 11 HC.out.1 (.inl (by decide)), bits_keep 11 HC.out.2 (.inl (by decide))⟩
            · obtain rfl := Option.some.inj ho
              clear hmet
              go_wp2
              exact ⟨by kernel_rfl, pairF_set 12 HV.out (by first | exact .inr rfl | exact .inl ⟨by decide, rfl⟩) (by first | exact .inr rfl | exact .inl ⟨by decide, rfl⟩) (by first | exact .inr rfl | exact .inl ⟨by decide, rfl⟩) (by first | exact .inr rfl | exact .inl ⟨by decide, rfl⟩) (by first | exact .inr rfl | exact .inl ⟨by decide, rfl⟩) (by first | exact .inr rfl | exact .inl ⟨by decide, rfl⟩) (by first | exact .inr rfl | exact .inl ⟨by decide, rfl⟩) (by first | exact .inr rfl | exact .inl ⟨by decide, rfl⟩), pairW_other 12 (by decide) (by decide) (by decide) (by decide) (by decide) (by decide) HP.out, HB.out, bits_keep 12 HC.out.1 (.inl (by decide)), bits_keep 12 HC.out.2 (.inl (by decide))⟩
            · obtain rfl := Option.some.inj ho
              have e12 := HV.out.2.2.2.2.2.2.2 (hmet _ rfl ⟨12, .data⟩ (by simp) rfl)
              rw [e12]
              clear e12
              have hp := pairW_13 hl (by decide) hn (hmet _ rfl ⟨9, .data⟩ (by simp) rfl) HP.out
              have HQ := Lib.hid hp
              have hb := keep_only (F := fun b => b = rb + 1) ((Only.refl _ x).putB (.cells #[bif l.getD 11 false then f 85 else v1, f 90] 26) (fun _ => rfl)) (fun e => by have := HN.out.2.1.1; omega) HB.out
              have HQB := Lib.hid hb
              have hset : x.setCell ⟨rb + 1, 1, none⟩ (f 90) = putB x (rb + 1) (.cells #[bif l.getD 11 false then f 85 else v1, f 90] 26) := by rw [set_of HP.out.hw]; rfl
              have hff : x.frozen? ⟨rb + 1, 1, none⟩ = false := frozen_of HP.out.hw _
              have hcc : x.cell? ⟨rb + 1, 1, none⟩ = some (bif l.getD 13 false then f 90 else v2) := by rw [cell_of HP.out.hw]; rfl
              obtain ⟨sa, sn, sc, hs⟩ : ∃ sa sn sc, f 90 = .slice sa sn sc := by
                have h9 := HP.out.r2
                rw [(hmet _ rfl ⟨9, .data⟩ (by simp) rfl : l.getD 9 false = true)] at h9
                obtain ⟨sa, sc, hs, -⟩ := own_value h9
                exact ⟨sa, _, sc, hs⟩
              obtain ⟨o2, ho2⟩ : ∃ o2, (bif l.getD 11 false then f 85 else v1) = o2 := ⟨_, rfl⟩
              rw [ho2] at hset hp hb
              rw [hn] at hcc
              rw [hs] at hset hp hb
              rw [hs]
              have HQ := Lib.hid hp
              have HQB := Lib.hid hb
              clear hp hb hmet hs ho2
              go_wp2
              exact ⟨by kernel_rfl, pairF_set 13 HV.out (by first | exact .inr rfl | exact .inl ⟨by decide, rfl⟩) (by first | exact .inr rfl | exact .inl ⟨by decide, rfl⟩) (by first | exact .inr rfl | exact .inl ⟨by decide, rfl⟩) (by first | exact .inr rfl | exact .inl ⟨by decide, rfl⟩) (by first | exact .inr rfl | exact .inl ⟨by decide, rfl⟩) (by first | exact .inr rfl | exact .inl ⟨by decide, rfl⟩) (by first | exact .inr rfl | exact .inl ⟨by decide, rfl⟩) (by first | exact .inr rfl | exact .inl ⟨by decide, rfl⟩), HQ.out, HQB.out, bits_keep 13 HC.out.1 (.inl (by decide)), bits_keep 13 HC.out.2 (.inl (by decide))⟩
          · rintro l f x hl hall ⟨hv, hp, hnb, _, _⟩
            dsimp only [mergeA, mergeL, Nat.reduceAdd]
            have HT8 := Lib.hid (tab_pair (tab_old HT7.out (old_drew (old_refl _))) HI.out.1 HNN.out HX.out hp (hall 4 (by decide)) (hall 9 (by decide)) (hall 11 (by decide)) (hall 13 (by decide)))
            obtain ⟨k1, q1, z1⟩ := of_block hnb
            clear hv hp hnb hall
            go_wp2
            refine Met.intro (hJ2 _ _ (by kernel_rfl) ?_ ?_)
            · exact ⟨i + 1, a', _, _, _, _, HI.out.1, by show Value.int .i64 ((i : Int) + 1) = _; simp, rfl, HT8.out⟩
            · rw [H15.out]
              show 4 - (intOf (Value.int .i64 ((i : Int) + 1))).toNat < 4 - (intOf (Value.int .i64 (i : Int))).toNat
              have := HI.out.1
              simp [intOf]
              omega
        · have e2 : ¬ (i : Int) < ds.length := by omega
          have HI4 := Lib.hid hi
          clear hil h4 hi
          go_wp2
          exact Met.intro (hJ1 _ _ (by kernel_rfl) ⟨_, _, _, _, _, HT.out, HI4.out⟩)

end Go.Proofs.Ytlbehhbicmmdoaa
