/- Layer 15: both TLBs side by side, step by step. -/
import Derived.Test.YtfiofjalpaeohaaRefTlbFill
import Derived.Test.YtfiofjalpaeohaaRefTlbLose
import Derived.Test.YtfiofjalpaeohaaRefTlbNew
import Derived.Test.YtfiofjalpaeohaaTlbLines2
namespace Go.Proofs.Ytfiofjalpaeohaa
set_option linter.unusedVariables false
set_option linter.unusedSimpArgs false
open Go.RowKit

/-- Each line stands in its set; a place without a line has nought. -/
structure Tidy (n wy : Nat) (T : List (List Pl)) : Prop where
  placed : Placed n T
  off : ∀ (i : Nat) (t : List Pl) (j : Nat) (q : Pl), T[i]? = some t → t[j]? = some q → q.on = false → q.l = ln0
  lens : ∀ t ∈ T, t.length = wy
theorem tidy_new (n wy : Nat) : Tidy n wy (List.replicate n (List.replicate wy pl0)) :=
  ⟨placed_new n wy, fun i t j q ht hq _ => by
    obtain rfl := List.eq_of_mem_replicate (List.mem_of_getElem? ht)
    obtain rfl := List.eq_of_mem_replicate (List.mem_of_getElem? hq)
    rfl, fun t ht => by obtain rfl := List.eq_of_mem_replicate ht; simp⟩
section
variable {n wy : Nat} {T : List (List Pl)} {i0 : Nat} {t : List Pl}
theorem tidy_set (h : Tidy n wy T) (ht : T[i0]? = some t) (j0 : Nat) (x : Pl) (hx : x.on = true → x.l.vp % n = i0) (hx0 : x.on = false → x.l = ln0) : Tidy n wy (T.set i0 (t.set j0 x)) := by
  refine ⟨placed_set h.placed ht j0 x hx, fun i u j q hu hq hon => ?_, fun u hu => ?_⟩
  · rw [List.getElem?_set] at hu
    by_cases hi : i0 = i
    · subst hi
      rw [if_pos rfl] at hu
      split at hu
      · obtain rfl := Option.some.inj hu
        rw [List.getElem?_set] at hq
        by_cases hj : j0 = j
        · subst hj
          rw [if_pos rfl] at hq
          split at hq
          · obtain rfl := Option.some.inj hq; exact hx0 hon
          · exact absurd hq (by simp)
        · rw [if_neg hj] at hq; exact h.off i0 t j q ht hq hon
      · exact absurd hu (by simp)
    · rw [if_neg hi] at hu; exact h.off i u j q hu hq hon
  · rcases List.mem_or_eq_of_mem_set hu with hu | rfl
    · exact h.lens u hu
    · rw [List.length_set]; exact h.lens t (List.mem_of_getElem? ht)
theorem tidy_lose (h : Tidy n wy T) (B : Ln → Bool) : Tidy n wy (T.map (fun t => t.map (loseP B))) := by
  refine ⟨placed_lose h.placed B, fun i u j q hu hq hon => ?_, fun u hu => ?_⟩
  · rw [List.getElem?_map] at hu
    obtain ⟨v, hv, rfl⟩ := Option.map_eq_some_iff.1 hu
    rw [List.getElem?_map] at hq
    obtain ⟨r, hr, rfl⟩ := Option.map_eq_some_iff.1 hq
    unfold loseP at hon ⊢
    split
    · rfl
    · rename_i h0; rw [if_neg h0] at hon; exact h.off i v j r hv hr hon
  · obtain ⟨v, hv, rfl⟩ := List.mem_map.1 hu
    rw [List.length_map]; exact h.lens v hv
end

section
variable {w x : World} {p gs : Nat} {bs : List Nat} {n wy q L N : Nat} {T : List (List Pl)}
set_option maxHeartbeats 8000000 in
theorem refEvict_bad {F : List Pl} (h : IsRT w q L n wy N F) (si wi : Int) (hbad : ¬ (0 ≤ si ∧ si < n ∧ 0 ≤ wi ∧ wi < wy)) :
    Calls Try.prog 43 #[.pointer (some ⟨q, 0, none⟩), .int .i64 si, .int .i64 wi] w (RetB w (.bool false)) := by
  obtain ⟨c0, -, -⟩ := of_block h.hq
  have n64 : (n : Int) ≤ 64 := by have := h.h1.2; omega
  have w8 : (wy : Int) ≤ 8 := by have := h.h2.2; omega
  by_cases h1 : si < 0
  · clear h hbad
    go_enter Try.func43, Try.ntmps43
    go_wp2
    go_ret
    exact ⟨rfl, old_refl _⟩
  · by_cases h2 : (n : Int) ≤ si
    · clear h hbad
      go_enter Try.func43, Try.ntmps43
      go_wp2
      go_ret
      exact ⟨rfl, old_refl _⟩
    · have i1 : si < n := by omega
      by_cases h3 : wi < 0
      · clear h hbad h2
        go_enter Try.func43, Try.ntmps43
        go_wp2
        go_ret
        exact ⟨rfl, old_refl _⟩
      · have h4 : (wy : Int) ≤ wi := by omega
        clear h hbad h2
        go_enter Try.func43, Try.ntmps43
        go_wp2
        go_ret
        exact ⟨rfl, old_refl _⟩

/-- Two calls, one on either side, that tell the same and leave the same. -/
structure PairC (p gs : Nat) (bs : List Nat) (n wy q L N : Nat) (T T' : List (List Pl)) (f : FuncId) (a1 : Array Value) (g : FuncId) (a2 : Array Value) (v : Value) : Prop where
  a : ∀ x, IsTlb x p gs bs n wy T → Calls Try.prog f a1 x (fun e y => e = .returned v ∧ IsTlb y p gs bs n wy T' ∧ Only (fun z => z ∈ bs) x y)
  b : ∀ x, IsRT x q L n wy N T.flatten → Calls Try.prog g a2 x (fun e y => e = .returned v ∧ IsRT y q L n wy N T'.flatten ∧ Only (fun z => z = L) x y)
  t : Tidy n wy T'
theorem fill_pair (h : IsTlb x p gs bs n wy T) (hd : Tidy n wy T) (hr : IsRT x q L n wy N T.flatten) (l : Ln) (way : Int) : ∃ (r : Pl) (T' : List (List Pl)),
    PairC p gs bs n wy q L N T T' 30 #[.pointer (some ⟨p, 0, none⟩), .agg l.cells.toArray, .int .i64 way] 42 #[.pointer (some ⟨q, 0, none⟩), .agg l.cells.toArray, .int .i64 way] (.tuple #[.agg r.l.cells.toArray, .bool r.on]) := by
  have hn := h.h1.1
  obtain ⟨b, t, hb, ht, htl⟩ := tlb_block h (i := l.vp % n) (Nat.mod_lt _ (by omega))
  have hJ := fillJ_lt t l way wy h.h2.1 h.h2.2 htl
  have hq := List.getElem?_eq_getElem (l := t) (by rw [htl]; exact hJ)
  have hK := flat_fill hd.lens hd.placed l way rfl ht
  have hp := flat_get wy T hd.lens _ t _ _ ht hq
  have hs := flat_set wy T hd.lens _ t (fillJ t l way wy) ⟨true, l⟩ ht hJ
  refine ⟨t[fillJ t l way wy], T.set (l.vp % n) (t.set (fillJ t l way wy) ⟨true, l⟩), ?_, ?_, tidy_set hd ht _ _ (fun _ => rfl) (fun h => by cases h)⟩
  · intro x hx
    refine (fill_calls hx l way rfl hb ht _ hq).mono ?_
    rintro e y ⟨rfl, h1, h2⟩
    exact ⟨rfl, h1, h2.mono fun i _ e => by rw [e]; exact List.mem_of_getElem? hb⟩
  · intro x hx
    refine (refFill_calls hx l way rfl htl (fun j p hj => flat_get wy T hd.lens _ t j p ht hj) _ hK _ hp).mono ?_
    rintro e y ⟨rfl, h1, h2⟩
    refine ⟨?_, by rw [hs]; exact h1, h2⟩
    generalize hr : t[fillJ t l way wy] = r at *
    cases hon : r.on with
    | true => rw [if_pos rfl]
    | false => rw [if_neg (by decide), hd.off _ t _ r ht hq hon]
theorem evict_pair (h : IsTlb x p gs bs n wy T) (hd : Tidy n wy T) (hr : IsRT x q L n wy N T.flatten) (si wi : Int) : ∃ (v : Bool) (T' : List (List Pl)),
    PairC p gs bs n wy q L N T T' 38 #[.pointer (some ⟨p, 0, none⟩), .int .i64 si, .int .i64 wi] 43 #[.pointer (some ⟨q, 0, none⟩), .int .i64 si, .int .i64 wi] (.bool v) := by
  by_cases hb : 0 ≤ si ∧ si < n ∧ 0 ≤ wi ∧ wi < wy
  · obtain ⟨i, rfl⟩ : ∃ i : Nat, si = i := ⟨si.toNat, by omega⟩
    obtain ⟨j, rfl⟩ : ∃ j : Nat, wi = j := ⟨wi.toNat, by omega⟩
    obtain ⟨b, t, hbb, ht, htl⟩ := tlb_block h (i := i) (by omega)
    have hjw : j < wy := by omega
    have hq := List.getElem?_eq_getElem (l := t) (show j < t.length by omega)
    have hp := flat_get wy T hd.lens _ t _ _ ht hq
    have hs := flat_set wy T hd.lens _ t j pl0 ht hjw
    refine ⟨(t[j]'(show j < t.length by omega)).on, T.set i (t.set j pl0), ?_, ?_, tidy_set hd ht _ _ (fun h => by cases h) (fun _ => rfl)⟩
    · intro x hx
      refine (evict_calls hx hbb ht j _ hq).mono ?_
      rintro e y ⟨rfl, h1, h2⟩
      exact ⟨rfl, h1, h2.mono fun i _ e => by rw [e]; exact List.mem_of_getElem? hbb⟩
    · intro x hx
      refine (refEvict_calls hx i j (by omega) hjw _ hp).mono ?_
      rintro e y ⟨rfl, h1, h2⟩
      exact ⟨rfl, by rw [hs]; exact h1, h2⟩
  · refine ⟨false, T, fun x hx => ?_, fun x hx => ?_, hd⟩
    · refine (evict_bad hx si wi hb).mono ?_
      rintro e y ⟨rfl, h1⟩
      exact ⟨rfl, tlb_old hx h1, (Only.of_below h1).mono fun _ _ f => f.elim⟩
    · refine (refEvict_bad hx si wi hb).mono ?_
      rintro e y ⟨rfl, h1⟩
      exact ⟨rfl, rt_old hx h1, (Only.of_below h1).mono fun _ _ f => f.elim⟩
theorem lose_pair (hd : Tidy n wy T) (B : Ln → Bool) (s : Sch) (hB : ∀ l, schB s l = B l) (f : FuncId) (a1 : Array Value) (hf : ∀ x, IsTlb x p gs bs n wy T → Calls Try.prog f a1 x (RetLose x p gs bs n wy T B)) :
    PairC p gs bs n wy q L N T (T.map (fun t => t.map (loseP B))) f a1 79 #[.pointer (some ⟨q, 0, none⟩), .agg s.cells.toArray] (.int .i64 (cntT B T : Nat)) := by
  refine ⟨fun x hx => hf x hx, fun x hx => ?_, tidy_lose hd B⟩
  obtain rfl : schB s = B := funext hB
  refine (refLose_calls hx s).mono ?_
  rintro e y ⟨rfl, h1, h2⟩
  exact ⟨by rw [flat_cnt], by rw [flat_map]; exact h1, h2⟩
theorem find_pair (h : IsTlb x p gs bs n wy T) (hd : Tidy n wy T) (kid kas : Int) (kvp : Nat) : ∃ (l : Ln) (v : Bool),
    (∀ x, IsTlb x p gs bs n wy T → Calls Try.prog 34 #[.pointer (some ⟨p, 0, none⟩), .int .i64 kid, .int .i64 kas, .int .u64 (kvp : Nat)] x (RetB x (.tuple #[.agg l.cells.toArray, .bool v]))) ∧
    (∀ x, IsRT x q L n wy N T.flatten → Calls Try.prog 45 #[.pointer (some ⟨q, 0, none⟩), .int .i64 kid, .int .i64 kas, .int .u64 (kvp : Nat)] x (RetB x (.tuple #[.agg l.cells.toArray, .bool v]))) := by
  have hn := h.h1.1
  obtain ⟨b, t, hb, ht, htl⟩ := tlb_block h (i := kvp % n) (Nat.mod_lt _ (by omega))
  rcases flat_at (kid := kid) (kas := kas) hd.lens hd.placed rfl ht with ⟨a, c⟩ | ⟨j, r, a, b', c⟩
  · exact ⟨ln0, false, fun x hx => find_none hx rfl hb ht c, fun x hx => refFind_none hx a⟩
  · exact ⟨r.l, true, fun x hx => find_some hx rfl hb ht j r a b', fun x hx => refFind_some hx _ r c (flat_get wy T hd.lens _ t j r ht b')⟩
theorem list_pair (h : IsTlb x p gs bs n wy T) (hr : IsRT x q L n wy N T.flatten) :
    (∀ x, IsTlb x p gs bs n wy T → Calls Try.prog 33 #[.pointer (some ⟨p, 0, none⟩)] x (fun e y => ∃ v, e = .returned v ∧ OwnLns y x.heap.size v (linesT T) ∧ Old x y)) ∧
    (∀ x, IsRT x q L n wy N T.flatten → Calls Try.prog 46 #[.pointer (some ⟨q, 0, none⟩)] x (fun e y => ∃ v, e = .returned v ∧ OwnLns y x.heap.size v (linesT T) ∧ Old x y)) := by
  refine ⟨fun x hx => list_calls hx, fun x hx => ?_⟩
  rw [← flat_lines]
  exact refList_calls hx
end

/-! Two calls that turn, in either order. -/
def PairS (j1 j2 : Nat) (A0 A1 B0 B1 C : World → Prop) (l : Array Bool) (x : World) : Prop := (bif l.getD j1 false then A1 x else A0 x) ∧ (bif l.getD j2 false then B1 x else B0 x) ∧ C x
section
variable {j1 j2 m : Nat} {A0 A1 B0 B1 C : World → Prop} {l : Array Bool} {x y : World}
theorem pairS_start (ha : A0 x) (hb : B0 x) (hc : C x) : PairS j1 j2 A0 A1 B0 B1 C (Array.replicate m false) x := by
  have e : ∀ j, (Array.replicate m false).getD j false = false := fun j => by simp [Array.getD_eq_getD_getElem?, Array.getElem?_replicate]; split <;> rfl
  exact ⟨by rw [e]; exact ha, by rw [e]; exact hb, hc⟩
theorem getD_set_ne (l : Array Bool) (j k : Nat) (h : j ≠ k) : (l.setIfInBounds j true).getD k false = l.getD k false := by
  simp [Array.getD_eq_getD_getElem?, Array.getElem?_setIfInBounds, h]
theorem getD_set_eq (l : Array Bool) (j : Nat) (h : j < l.size) : (l.setIfInBounds j true).getD j false = true := by
  simp [Array.getD_eq_getD_getElem?, Array.getElem?_setIfInBounds, h]
theorem pairS_other (j : Nat) (h1 : j ≠ j1) (h2 : j ≠ j2) (h : PairS j1 j2 A0 A1 B0 B1 C l x) : PairS j1 j2 A0 A1 B0 B1 C (l.setIfInBounds j true) x := by
  unfold PairS
  rw [getD_set_ne _ _ _ h1, getD_set_ne _ _ _ h2]
  exact h
theorem pairS_first (hz : l.size = m) (hm : j1 < m) (h12 : j1 ≠ j2) (hA : A1 y) (hB : (bif l.getD j2 false then B1 y else B0 y)) (hC : C y) : PairS j1 j2 A0 A1 B0 B1 C (l.setIfInBounds j1 true) y := by
  unfold PairS
  rw [getD_set_eq _ _ (by rw [hz]; exact hm), getD_set_ne _ _ _ h12]
  exact ⟨hA, hB, hC⟩
theorem pairS_second (hz : l.size = m) (hm : j2 < m) (h12 : j2 ≠ j1) (hA : (bif l.getD j1 false then A1 y else A0 y)) (hB : B1 y) (hC : C y) : PairS j1 j2 A0 A1 B0 B1 C (l.setIfInBounds j2 true) y := by
  unfold PairS
  rw [getD_set_eq _ _ (by rw [hz]; exact hm), getD_set_ne _ _ _ h12]
  exact ⟨hA, hB, hC⟩
end
end Go.Proofs.Ytfiofjalpaeohaa
