/- The statement TlbFirst: its plain part. -/
import Derived.Test.YtfiofjalpaeohaaTlbTold2
import Derived.Test.YtfiofjalpaeohaaFree
import Derived.Test.YtfiofjalpaeohaaBits
namespace Go.Proofs.Ytfiofjalpaeohaa
set_option linter.unusedVariables false
set_option linter.unusedSimpArgs false
open Go.RowKit

def onP (l : Ln) : Pl := ⟨true, l⟩
def lnF (n i : Nat) : Ln := ⟨1, 0, i * n, 0, i, false, false, false, false, false, false⟩
/-- A set that holds L in its first places. -/
def rowF (wy : Nat) (L : List Ln) : List Pl := L.map onP ++ List.replicate (wy - L.length) pl0
def tabF (n wy : Nat) (L : List Ln) : List (List Pl) := rowF wy L :: List.replicate (n - 1) (List.replicate wy pl0)
theorem free_row (k : Nat) : ∀ (L : List Ln) (i : Nat), freeP (L.map onP ++ List.replicate k pl0) i = if k = 0 then -1 else ((i + L.length : Nat) : Int)
  | [], i => by
    cases k with
    | zero => rfl
    | succ k => rfl
  | l :: L, i => by
    show freeP (onP l :: (L.map onP ++ List.replicate k pl0)) i = _
    unfold freeP
    rw [if_pos (show (onP l).on = true from rfl), free_row k L (i + 1), List.length_cons]
    split
    · rfl
    · congr 1; omega
theorem at_empty (kid kas : Int) (kvp : Nat) (k : Nat) : ∀ i, atP kid kas kvp (List.replicate k pl0) i = -1 := by
  induction k with
  | zero => intro i; rfl
  | succ k ih =>
    intro i
    rw [List.replicate_succ]
    unfold atP
    rw [if_neg (by simp [pl0])]
    exact ih (i + 1)
theorem at_row (kid kas : Int) (kvp : Nat) (k : Nat) : ∀ (L : List Ln) (i : Nat), (∀ l ∈ L, l.vp ≠ kvp) → atP kid kas kvp (L.map onP ++ List.replicate k pl0) i = -1
  | [], i, _ => at_empty kid kas kvp k i
  | l :: L, i, h => by
    show atP kid kas kvp (onP l :: (L.map onP ++ List.replicate k pl0)) i = _
    unfold atP
    rw [if_neg (by
      have := h l (List.mem_cons_self ..)
      simp [onP, keyB]
      intro _ _ e
      exact this (Int.ofNat.inj e))]
    exact at_row kid kas kvp k L (i + 1) (fun x hx => h x (List.mem_cons_of_mem _ hx))
theorem linesP_empty (k : Nat) : linesP (List.replicate k pl0) = [] := by
  induction k with
  | zero => rfl
  | succ k ih => rw [List.replicate_succ]; unfold linesP; simpa [pl0] using ih
theorem linesP_row (k : Nat) : ∀ L : List Ln, linesP (L.map onP ++ List.replicate k pl0) = L
  | [] => linesP_empty k
  | l :: L => by
    show linesP (onP l :: (L.map onP ++ List.replicate k pl0)) = _
    unfold linesP
    rw [if_pos (show (onP l).on = true from rfl), linesP_row k L]
    rfl
theorem linesT_empty (k wy : Nat) : linesT (List.replicate k (List.replicate wy pl0)) = [] := by
  induction k with
  | zero => rfl
  | succ k ih => rw [List.replicate_succ]; unfold linesT; rw [linesP_empty, ih]; rfl
theorem linesT_tab (n wy : Nat) (L : List Ln) : linesT (tabF n wy L) = L := by
  unfold tabF linesT rowF
  rw [linesP_row, linesT_empty, List.append_nil]
theorem fill_row (wy : Nat) (L : List Ln) (l : Ln) (way : Int) (h : ∀ x ∈ L, x.vp ≠ l.vp) (hL : L.length ≤ wy) : fillJ (rowF wy L) l way wy = if L.length = wy then wayJ way wy else L.length := by
  unfold fillJ rowF
  rw [at_row _ _ _ _ L 0 h, if_pos rfl, free_row _ L 0]
  by_cases e : L.length = wy
  · rw [if_pos (show wy - L.length = 0 by omega), if_pos rfl, if_pos e]
  · rw [if_neg (show ¬ wy - L.length = 0 by omega), if_neg (by omega), if_neg e]
    omega
theorem row_push (wy : Nat) (L : List Ln) (l : Ln) (h : L.length < wy) : (rowF wy L).set L.length (onP l) = rowF wy (L ++ [l]) := by
  unfold rowF
  obtain ⟨k, hk⟩ : ∃ k, wy - L.length = k + 1 := ⟨wy - L.length - 1, by omega⟩
  rw [List.length_append, List.length_singleton, show wy - (L.length + 1) = k by omega, hk, List.set_append_right _ _ (by simp), List.length_map, Nat.sub_self, List.replicate_succ, List.set_cons_zero, List.map_append, List.append_assoc]
  rfl
theorem row_put (wy : Nat) (L : List Ln) (l : Ln) (k : Nat) (h : k < L.length) : (rowF wy L).set k (onP l) = rowF wy (L.set k l) := by
  unfold rowF
  rw [List.set_append_left _ _ (by simpa using h), List.length_set, List.map_set]
theorem row_get_push (wy : Nat) (L : List Ln) (h : L.length < wy) : (rowF wy L)[L.length]? = some pl0 := by
  unfold rowF
  rw [List.getElem?_append_right (by simp), List.length_map, Nat.sub_self, List.getElem?_replicate, if_pos (by omega)]
theorem row_get (wy : Nat) (L : List Ln) (k : Nat) (l : Ln) (h : L[k]? = some l) : (rowF wy L)[k]? = some (onP l) := by
  unfold rowF
  have := (List.getElem?_eq_some_iff.1 h).1
  rw [List.getElem?_append_left (by simpa using this), List.getElem?_map, h]
  rfl
/-- What the set holds behind a Fill. -/
def stepL (wy : Nat) (L : List Ln) (l : Ln) (way : Int) : List Ln := if L.length = wy then L.set (wayJ way wy) l else L ++ [l]
/-- What the place had. -/
def outL (wy : Nat) (L : List Ln) (way : Int) : Pl := if L.length = wy then ⟨true, (L[wayJ way wy]?).getD ln0⟩ else pl0
theorem first_fill {x : World} {p gs : Nat} {bs : List Nat} {n wy : Nat} {L : List Ln} (h : IsTlb x p gs bs n wy (tabF n wy L)) (i : Nat) (way : Int) (hL : L.length ≤ wy) (hk : ∀ a ∈ L, ∃ j, j < i ∧ a = lnF n j) :
    Calls Try.prog 30 #[.pointer (some ⟨p, 0, none⟩), .agg (lnF n i).cells.toArray, .int .i64 way] x (fun e y => e = .returned (.tuple #[.agg (outL wy L way).l.cells.toArray, .bool (outL wy L way).on]) ∧
      IsTlb y p gs bs n wy (tabF n wy (stepL wy L (lnF n i) way)) ∧ Only (fun z => z ∈ bs) x y) := by
  have hn := h.h1.1
  have hvp : ∀ a ∈ L, a.vp ≠ (lnF n i).vp := by
    intro a ha
    obtain ⟨j, hj, rfl⟩ := hk a ha
    intro e
    have e : j * n = i * n := e
    have := Nat.eq_of_mul_eq_mul_right (show 0 < n by omega) e
    omega
  obtain ⟨b, t, hb, ht, htl⟩ := tlb_block h (i := 0) hn
  obtain rfl : t = rowF wy L := by simpa [tabF] using ht.symm
  have hf := fill_row wy L (lnF n i) way hvp hL
  have hi0 : 0 = (lnF n i).vp % n := (Nat.mul_mod_left i n).symm
  by_cases e : L.length = wy
  · have hw := (wayJ_eq way wy h.h2.1 h.h2.2).2.1
    have hg : L[wayJ way wy]? = some (L[wayJ way wy]'(by rw [e]; exact hw)) := List.getElem?_eq_getElem _
    rw [if_pos e] at hf
    refine (fill_calls h (lnF n i) way hi0 hb ht (onP (L[wayJ way wy]'(by rw [e]; exact hw))) (by rw [hf]; exact row_get wy L _ _ hg)).mono ?_
    rintro z y ⟨rfl, h1, h2⟩
    have ho : outL wy L way = onP (L[wayJ way wy]'(by rw [e]; exact hw)) := by unfold outL; rw [if_pos e, hg]; rfl
    refine ⟨by rw [ho], ?_, h2.mono fun k _ e => by rw [e]; exact List.mem_of_getElem? hb⟩
    rw [hf, show (⟨true, lnF n i⟩ : Pl) = onP (lnF n i) from rfl, row_put wy L _ _ (by rw [e]; exact hw)] at h1
    unfold stepL
    rw [if_pos e]
    exact h1
  · have hlt : L.length < wy := by omega
    rw [if_neg e] at hf
    refine (fill_calls h (lnF n i) way hi0 hb ht pl0 (by rw [hf]; exact row_get_push wy L hlt)).mono ?_
    rintro z y ⟨rfl, h1, h2⟩
    have ho : outL wy L way = pl0 := by unfold outL; rw [if_neg e]
    refine ⟨by rw [ho], ?_, h2.mono fun k _ e => by rw [e]; exact List.mem_of_getElem? hb⟩
    rw [hf, show (⟨true, lnF n i⟩ : Pl) = onP (lnF n i) from rfl, row_push wy L _ hlt] at h1
    unfold stepL
    rw [if_neg e]
    exact h1
theorem take_three {α : Type} (l m : List α) (a k N : Nat) (hm : m.length = k) (h : a + k ≤ N) (hN : N ≤ l.length) : (l.take a ++ m ++ l.drop (a + k)).take N = (l.take N).take a ++ m ++ (l.take N).drop (a + k) := by
  obtain ⟨P, R, rfl, hP⟩ : ∃ P R, l = P ++ R ∧ P.length = N := ⟨l.take N, l.drop N, (List.take_append_drop N l).symm, by simp; omega⟩
  subst hP
  have e1 : (P ++ R).take a = P.take a := List.take_append_of_le_length (by omega)
  have e2 : (P ++ R).drop (a + k) = P.drop (a + k) ++ R := List.drop_append_of_le_length (by omega)
  rw [e1, e2, List.take_left, ← List.append_assoc]
  exact List.take_left' (by simp; omega)
/-- A line laid in the place of another one. -/
theorem own_put {w : World} {B g c k : Nat} {L : List Ln} (h : OwnLns w B (.slice (some ⟨g, 0, none⟩) L.length c) L) (hk : k < L.length) (l : Ln) :
    ∃ old : Array Value, w.heap[g]? = some (.cells old 64) ∧ k * 11 + 11 ≤ old.size ∧ B ≤ g ∧
      OwnLns (putB w g (.cells (old.toList.take (k * 11) ++ l.cells ++ old.toList.drop (k * 11 + l.cells.length)).toArray 64)) B (.slice (some ⟨g, 0, none⟩) L.length c) (L.set k l) := by
  obtain ⟨h0, h'⟩ := h
  rcases h' with ⟨e, _⟩ | ⟨g', cap, cur, e, hb, hg, h1, h2, h3, h4⟩
  · cases e
  · injection e with e1 e2 e3
    injection e1 with e1
    injection e1 with e1
    subst e1
    subst e3
    have hs : k * 11 + 11 ≤ L.length * 11 := by omega
    have hs2 : L.length * 11 ≤ c * 11 := by omega
    refine ⟨cur, hg, by omega, hb, ?_⟩
    refine ⟨by rw [flatC_length ln_len], .inr ⟨g, c, _, by rw [List.length_set], hb, putB_same _ (lt_of_block hg), by rw [List.length_set]; exact h1, h2, ?_, ?_⟩⟩
    · simp [ln_len]; omega
    · rw [List.length_set]
      show (cur.toList.take (k * 11) ++ l.cells ++ cur.toList.drop (k * 11 + 11)).take (L.length * 11) = _
      rw [take_three cur.toList l.cells (k * 11) 11 (L.length * 11) (ln_len l) hs (by simp; omega), h4]
      exact flatC_set ln_len L k l hk
end Go.Proofs.Ytfiofjalpaeohaa
