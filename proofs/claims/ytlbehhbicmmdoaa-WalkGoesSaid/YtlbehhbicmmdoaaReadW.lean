/- Layer 12's Words: Read; the reader of WalkNear. -/
import Derived.Test.YtlbehhbicmmdoaaWalkNearN
import Derived.Test.YtlbehhbicmmdoaaTables
import Derived.Test.YtlbehhbicmmdoaaWalk
namespace Go.Proofs.Ytlbehhbicmmdoaa
set_option linter.unusedVariables false
set_option linter.unusedSimpArgs false
open Go.RowKit

/-- A value of type Words: two rows that are read. -/
structure WordsAt (x : World) (B : Nat) (a1 : Option Addr) (c1 : Nat) (a2 : Option Addr) (c2 : Nat) (A W : List Nat) : Prop where
  w1 : Words x a1 c1 A
  w2 : Words x a2 c2 W
  b1 : ∀ bb off, a1 = some ⟨bb, off, none⟩ → bb < B
  b2 : ∀ bb off, a2 = some ⟨bb, off, none⟩ → bb < B
theorem wordsAt_only {x y : World} {B : Nat} {a1 : Option Addr} {c1 : Nat} {a2 : Option Addr} {c2 : Nat} {A W : List Nat} (h : WordsAt x B a1 c1 a2 c2 A W) (ho : Only (fun b => B ≤ b) x y) : WordsAt y B a1 c1 a2 c2 A W :=
  { h with w1 := words_only h.w1 ho (fun bb off e f => by have := h.b1 bb off e; omega), w2 := words_only h.w2 ho (fun bb off e f => by have := h.b2 bb off e; omega) }
theorem wordsAt_old {x y : World} {B : Nat} {a1 : Option Addr} {c1 : Nat} {a2 : Option Addr} {c2 : Nat} {A W : List Nat} (h : WordsAt x B a1 c1 a2 c2 A W) (ho : Old x y) : WordsAt y B a1 c1 a2 c2 A W :=
  { h with w1 := words_old h.w1 ho, w2 := words_old h.w2 ho }
theorem words_own {x : World} {B0 : Nat} {v : Value} {A : List Nat} (h : OwnW x B0 v A) (hA : ∀ a ∈ A, a < 18446744073709551616) : ∃ ad c, v = .slice ad A.length c ∧ Words x ad c A ∧ ∀ bb off, ad = some ⟨bb, off, none⟩ → bb < x.heap.size := by
  obtain ⟨ad, c, rfl, h1, h2, h3, h4⟩ := own_value h
  refine ⟨ad, c, rfl, ⟨h1, h2, fun e => ?_, fun k a hk => ?_⟩, fun bb off e => (h3 bb off e).2.2⟩
  · subst e
    rcases h.2 with ⟨e, _⟩ | ⟨g, cap, cur, e, _⟩
    · injection e with e1 e2 e3
    · injection e with e1; cases e1
  · obtain ⟨g, rfl⟩ := h4 (by have := (List.getElem?_eq_some_iff.1 hk).1; omega)
    obtain ⟨_, _, hlt⟩ := h3 g 0 rfl
    exact ⟨hA a (List.mem_of_getElem? hk), g, 0, rfl, hlt, by rw [Nat.zero_add]; exact own_cell h rfl k (wordsC_get A k hk)⟩
theorem readO_drop (x : Nat) : ∀ (i : Nat) (A W : List Nat) (a w : Nat), A[i]? = some a → W[i]? = some w → readO (A.drop i) (W.drop i) x = if a = x then some w else readO (A.drop (i + 1)) (W.drop (i + 1)) x
  | i, A, W, a, w, hA, hW => by
    have h1 := (List.getElem?_eq_some_iff.1 hA)
    have h2 := (List.getElem?_eq_some_iff.1 hW)
    obtain ⟨l1, e1⟩ := h1
    obtain ⟨l2, e2⟩ := h2
    rw [List.drop_eq_getElem_cons l1, List.drop_eq_getElem_cons l2, e1, e2]
    rfl
theorem readO_end (x i : Nat) (A W : List Nat) (h : A.length ≤ i ∨ W.length ≤ i) : readO (A.drop i) (W.drop i) x = none := by
  rcases h with h | h
  · rw [List.drop_eq_nil_of_le h]; rfl
  · rw [List.drop_eq_nil_of_le h]; cases A.drop i <;> rfl
set_option maxHeartbeats 4000000 in
set_option maxRecDepth 100000 in
theorem readW_calls (B : Nat) (a1 : Option Addr) (c1 : Nat) (a2 : Option Addr) (c2 : Nat) (A W : List Nat) (x : Nat) (stop : Bool) (w : World) (h : WordsAt w B a1 c1 a2 c2 A W) :
    Calls Try.prog 17 #[.agg #[.slice a1 A.length c1, .slice a2 W.length c2], .int .u64 (x : Nat), .bool stop] w (RetB w (.tuple #[.int .u64 (readR A W x : Nat), .bool ((readO A W x).isSome || !stop)])) := by
  have hA63 : (A.length : Int) ≤ 9223372036854775807 := by have := h.w1.1; have := h.w1.2.1; unfold maxLen at this; omega
  have hW63 : (W.length : Int) ≤ 9223372036854775807 := by have := h.w2.1; have := h.w2.2.1; unfold maxLen at this; omega
  obtain ⟨r, hr⟩ : ∃ r, readO A W x = r := ⟨_, rfl⟩
  have hR : readR A W x = r.getD 0 := by unfold readR; rw [hr]
  rw [hr, hR]
  have H := Lib.hid h
  have HR := Lib.hid hr
  clear h hr hR
  go_enter Try.func17, Try.ntmps17
  go_upto_region 1 with (fail)
  have hb := new_block w (.cells #[.slice a1 A.length c1, .slice a2 W.length c2] 26)
  have hO := old_alloc (old_refl w) (.cells #[.slice a1 A.length c1, .slice a2 W.length c2] 26)
  generalize w.alloc (.cells #[.slice a1 A.length c1, .slice a2 W.length c2] 26) = X at *
  generalize w.heap.size = xb at *
  have HX := Lib.hid (And.intro hO hb)
  clear hO hb
  go_wp2
  go_loopw [8] (fun s8 wx => ∃ i : Nat, i ≤ A.length ∧ i ≤ W.length ∧ s8 = .int .i64 (i : Nat) ∧ X = wx ∧ readO (A.drop i) (W.drop i) x = r) (fun s8 _ => A.length - (intOf s8).toNat)
  case atStart => exact ⟨0, by omega, by omega, rfl, rfl, HR.out⟩
  case round =>
    obtain ⟨i, hi, hi2, rfl, rfl, hd⟩ := hrel
    obtain ⟨k1, q1, z1⟩ := of_block HX.out.2
    have HD := Lib.hid hd
    clear hd
    by_cases hiA : i < A.length
    · have e1 : (i : Int) < A.length := by omega
      by_cases hiW : i < W.length
      · have e2 : (i : Int) < W.length := by omega
        obtain ⟨a, ha⟩ : ∃ a, A[i]? = some a := ⟨_, List.getElem?_eq_getElem hiA⟩
        obtain ⟨v, hv⟩ : ∃ v, W[i]? = some v := ⟨_, List.getElem?_eq_getElem hiW⟩
        obtain ⟨_, b1, o1, rfl, hb1, hc1⟩ := (words_old H.out.w1 HX.out.1).2.2.2 i a ha
        obtain ⟨_, b2, o2, rfl, hb2, hc2⟩ := (words_old H.out.w2 HX.out.1).2.2.2 i v hv
        have hst := readO_drop x i A W a v ha hv
        rw [HD.out] at hst
        have HS := Lib.hid hst
        have HI := Lib.hid (And.intro hiA hiW)
        clear hi hi2 hiA hiW ha hv hb1 hb2 hst
        by_cases hax : a = x
        · subst hax
          have hr : r = some v := by rw [HS.out, if_pos rfl]
          subst hr
          go_wp2
          go_ret2
          exact ⟨by simp, HX.out.1⟩
        · have hb : ((a : Int) == (x : Int)) = false := by simp; omega
          have hne := hax
          have HNE := Lib.hid hne
          clear hax hne
          go_wp2
          go_roundw
          case rel => exact ⟨i + 1, HI.out.1, HI.out.2, by simp, (by first | trivial | rfl), by rw [HS.out, if_neg HNE.out]⟩
          case measure => have := HI.out.1; (simp [intOf]) <;> omega
      · have hr : r = none := by rw [← HD.out]; exact readO_end x i A W (.inr (by omega))
        subst hr
        have e2 : ¬ (i : Int) < W.length := by omega
        clear hi hi2 hiA hiW
        go_wp2
        go_ret2
        exact ⟨by simp, HX.out.1⟩
    · have hr : r = none := by rw [← HD.out]; exact readO_end x i A W (.inl (by omega))
      subst hr
      have e1 : ¬ (i : Int) < A.length := by omega
      clear hi hi2 hiA
      go_wp2
      go_ret2
      exact ⟨by simp, HX.out.1⟩
theorem fn_near (args : Array Value) (x : World) : (callFunc 28 args).run Try.prog x = .ok (.enter 28 args) x := by kernel_rfl
/-- What the reader reads. -/
def NearS (B wb : Nat) (a1 : Option Addr) (c1 : Nat) (a2 : Option Addr) (c2 : Nat) (A W : List Nat) (_ : Nat) (x : World) : Prop :=
  x.heap[wb]? = some (.cells #[.slice a1 A.length c1, .slice a2 W.length c2] 26) ∧ WordsAt x B a1 c1 a2 c2 A W
set_option maxHeartbeats 4000000 in
set_option maxRecDepth 100000 in
theorem near1_calls (B wb : Nat) (a1 : Option Addr) (c1 : Nat) (a2 : Option Addr) (c2 : Nat) (A W : List Nat) (k a : Nat) (x : World) (h : NearS B wb a1 c1 a2 c2 A W k x) :
    Calls Try.prog 28 #[.int .u64 (a : Nat), .pointer (some ⟨wb, 0, none⟩)] x (RetB x (.tuple #[.int .u64 (readR A W a : Nat), .bool true])) := by
  have hc := fun y (hy : Old x y) => readW_calls B a1 c1 a2 c2 A W a false y (wordsAt_old h.2 hy)
  simp only [Bool.not_false, Bool.or_true] at hc
  obtain ⟨k1, q1, z1⟩ := of_block h.1
  have HC := Lib.hid hc
  clear h hc
  generalize readR A W a = R at *
  go_enter Try.func28, Try.ntmps28
  go_wp2_with fail
  (with_reducible refine (HC.out _ (by first | exact old_refl _ | exact old_drew (old_refl _))).mono ?_)
  rintro e y ⟨rfl, hO⟩
  have HO := Lib.hid hO
  clear hO k1 q1 z1
  go_wp2
  go_ret2
  exact ⟨rfl, HO.out⟩
theorem near_reader (B wb : Nat) (a1 : Option Addr) (c1 : Nat) (a2 : Option Addr) (c2 : Nat) (A W : List Nat) (hB : wb < B) (hW : ∀ w ∈ W, w < 18446744073709551616) : Reader 28 #[.pointer (some ⟨wb, 0, none⟩)] (fun _ => False) (NearS B wb a1 c1 a2 c2 A W) (readR A W) (fun _ => true) B :=
  { own := fun b h => h.elim
    fn := fn_near
    word := readR_lt A W hW
    keep := fun k x y h ho => ⟨keep_only ho (fun e => by omega) h.1, wordsAt_only h.2 ho⟩
    call := fun k a x hk ha hS => by
      refine (near1_calls B wb a1 c1 a2 c2 A W k a x hS).mono ?_
      rintro e y ⟨rfl, hO⟩
      exact ⟨rfl, ⟨keep_old hO hS.1, wordsAt_old hS.2 hO⟩, (Only.of_below hO).mono fun b _ f => f.elim⟩ }
end Go.Proofs.Ytlbehhbicmmdoaa
