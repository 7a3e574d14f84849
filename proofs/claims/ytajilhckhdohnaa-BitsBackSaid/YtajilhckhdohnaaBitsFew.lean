/- The statements of layer 4 over bytes: few, the slice that all of them begin with. -/
import Derived.Test.YtajilhckhdohnaaBitsTold
namespace Go.Proofs.Ytajilhckhdohnaa
set_option linter.unusedVariables false
set_option linter.unusedSimpArgs false
open Go.RowKit

/-- A copy of the first 200 bytes, a mark behind them. -/
def RetFew (w : World) (l : List Nat) (e : Ending) (w' : World) : Prop :=
  ∃ g cap, e = .returned (.slice (some ⟨g, 0, none⟩) (l.take 200).length cap) ∧ Row w' w.heap.size g cap (l.take 200 ++ [165]) ∧ Old w w'

theorem bytes_take {w : World} {ad : Option Addr} {c : Nat} {l : List Nat} (h : Bytes w ad c l) (n : Nat) : Bytes w ad c (l.take n) := by
  refine ⟨?_, h.2.1, h.2.2.1, fun k x hx => h.2.2.2 k x ?_⟩
  · rw [List.length_take]; exact Nat.le_trans (Nat.min_le_right _ _) h.1
  · rw [List.getElem?_take] at hx
    split at hx
    · exact hx
    · cases hx

theorem own_append {w : World} {B g : Nat} {v : Value} {n : Nat} {l : List Nat} (h : w.ownsRow B 5 1 v n (l.map vb)) : n = l.length := by
  have := h.1
  simpa using this.symm

theorem bytes_news2 {w : World} {a : Addr} {c : Nat} {l : List Nat} (h : Bytes w (some a) c l) : ∀ (j : Nat) (u : Value), (l.map vb)[j]? = some u → w.cell? (a.add j) = some u := by
  intro j u hu
  rw [List.getElem?_map] at hu
  obtain ⟨x, hx, rfl⟩ := Option.map_eq_some_iff.1 hu
  obtain ⟨_, bb, off, e, _, hc⟩ := h.2.2.2 j x hx
  cases e
  rw [add_eq _ _ rfl]
  exact hc

theorem one_new (w : World) (v : Value) (t : TypeId) : ∀ (j : Nat) (u : Value), [v][j]? = some u → (w.alloc (.cells #[v] t)).cell? ((⟨w.heap.size, 0, none⟩ : Addr).add j) = some u := by
  intro j u hu
  cases j with
  | zero =>
    rw [add_eq _ _ rfl, cell_of (new_block _ _)]
    exact hu
  | succ j => simp at hu

theorem one_new2 (w : World) (v : Value) (t : TypeId) (b : Nat) (hb : b = w.heap.size) : ∀ (j : Nat) (u : Value), [v][j]? = some u → (w.alloc (.cells #[v] t)).cell? ((⟨b, 0, none⟩ : Addr).add j) = some u := by
  subst hb
  exact one_new w v t

theorem slice_head (w : World) (g n cap len : Nat) (h : n ≤ cap) : (Instr.slice 22 (.slice (some ⟨g, 0, none⟩) len cap) none (some (.int .i64 n)) none).run Try.prog w = .ok (.slice (some ⟨g, 0, none⟩) n cap) w := by
  rw [run_slice_h (P := Try.prog) w 22 (some ⟨g, 0, none⟩) len cap rfl .i64 n (by omega) (by omega)]
  have hs : (sizeOf (Try.prog.elem 22)).run Try.prog w = .ok 1 w := by kernel_rfl
  rw [hs]
  simp [Result.andThen, sliced, Addr.add]

set_option maxHeartbeats 4000000 in
set_option maxRecDepth 100000 in
theorem few_calls (ad : Option Addr) (l : List Nat) (c : Nat) (w : World) (hB : Bytes w ad c l) : Calls Try.prog 14 #[.slice ad l.length c] w (RetFew w l) := by
  have hn : l.length ≤ maxLen := Nat.le_trans hB.1 hB.2.1
  have hn63 : l.length ≤ 9223372036854775807 := hn
  have hc := hB.1
  have hc63 : c ≤ 9223372036854775807 := hB.2.1
  obtain ⟨i0, hi, hz0, hz1, hz2⟩ := info_parts u8_info
  have hlit : (w.alloc (.cells #[] 5)).ownsRow w.heap.size 5 1 (.slice (some ⟨w.heap.size, 0, none⟩) 0 0) 0 [] := World.ownsRow_lit w #[] 0 (Nat.le_refl _) (by decide) rfl
  have hO1 : Old w (w.alloc (.cells #[] 5)) := old_alloc (old_refl w) _
  have hbs : w.heap.size ≤ (w.alloc (.cells #[] 5)).heap.size := hO1.size
  obtain ⟨L, hLt⟩ : ∃ L, l.take 200 = L := ⟨_, rfl⟩
  have hBL : Bytes (w.alloc (.cells #[] 5)) ad c L := by rw [← hLt]; exact bytes_old (bytes_take hB 200) hO1
  have hL256 : ∀ x ∈ L ++ [165], x < 256 := by
    intro x hx
    rcases List.mem_append.1 hx with h | h
    · exact bytes_lt hBL x h
    · simp at h; omega
  have tok1 : True := trivial
  have tok2 : True := trivial
  unfold RetFew
  rw [hLt]
  rcases ad with _ | a
  · have h0 := hB.2.2.1 rfl
    have hl0 : l = [] := by
      cases l with
      | nil => rfl
      | cons x l => have := hB.1; simp at this; omega
    subst h0 hl0
    have hL : L = [] := by rw [← hLt]; rfl
    subst hL
    clear hB hLt hBL hc hn hn63 hc63
    go_enter Try.func14, Try.ntmps14
    go_wp2_with (first | (at_builtin; have _t := tok1; refine wpList_append_own_none _ rfl _ _ 22 rfl w.heap.size 5 i0 1 Try.underlying22 hi _ _ _ rfl hlit rfl ?_; clear tok1) | (at_builtin; have _t := tok2; refine wpList_append_own _ rfl _ _ 22 rfl w.heap.size 5 i0 (.int .u8 0) 1 1 Try.underlying22 hi hz0 hz1 hz2 rfl (by decide) _ _ _ rfl (hlit.alloc _) ⟨w.heap.size + 1, 0, none⟩ 1 1 [.int .u8 165] rfl rfl (one_new2 _ _ _ _ (Array.size_push _).symm) (by simp [Value.oneCell']) (by unfold maxLen; omega) (by omega) (old_alloc hO1 _).size ?_; intro v2 w3 hown2 hgrow2 h9; clear h9 tok2))
    obtain ⟨g, cap, hv, hrow⟩ := row_of (l := [165]) hown2 rfl (by omega) hL256
    have hlen : ([165] : List Nat).length = 1 := rfl
    rw [hlen] at hv
    subst hv
    have hp := row_parts hrow
    rw [hlen] at hp
    have hcap : 0 ≤ cap := by omega
    have hO3 := old_grown (old_alloc hO1 _) hgrow2 (fun g e => (hlit.lt g e).1)
    have HR := Lib.hid hrow
    clear hrow hown2 hgrow2 hp
    have hsl : (Instr.slice 22 (.slice (some ⟨g, 0, none⟩) 1 cap) none (some (.int .i64 0)) none).run Try.prog w3 = .ok (.slice (some ⟨g, 0, none⟩) 0 cap) w3 := slice_head w3 g 0 cap 1 hcap
    rw [hsl]
    go_wp2
    go_ret
    exact ⟨g, cap, rfl, HR.out, hO3⟩
  · by_cases h200 : l.length ≤ 200
    · have hL : L.length = l.length := by rw [← hLt, List.length_take]; omega
      have h200' : (l.length : Int) ≤ 200 := by omega
      clear hB hLt
      go_enter Try.func14, Try.ntmps14
      go_wp2_with (first | (at_builtin; have _t := tok1; refine wpList_append_own _ rfl _ _ 22 rfl w.heap.size 5 i0 (.int .u8 0) 1 1 Try.underlying22 hi hz0 hz1 hz2 rfl (by decide) _ _ [] rfl hlit a l.length c (L.map vb) rfl (by simp [hL]) (bytes_news2 hBL) (vb_one L) (by unfold maxLen; omega) (by omega) hbs ?_; intro v1 w2 hown1 hgrow1 h9; clear h9 tok1; simp only [Nat.zero_add, List.nil_append] at hown1; have hb2 := Nat.le_trans hbs hgrow1.size) | (at_builtin; have _t := tok2; refine wpList_append_own _ rfl _ _ 22 rfl w.heap.size 5 i0 (.int .u8 0) 1 1 Try.underlying22 hi hz0 hz1 hz2 rfl (by decide) _ _ _ rfl (hown1.alloc _) ⟨w2.heap.size, 0, none⟩ 1 1 [.int .u8 165] rfl rfl (one_new _ _ _) (by simp [Value.oneCell']) (by unfold maxLen; omega) (by omega) (Nat.le_trans hb2 (Nat.le_of_lt (by show w2.heap.size < (w2.heap.push _).size; rw [Array.size_push]; omega))) ?_; intro v2 w3 hown2 hgrow2 h9; clear h9 tok2))
      obtain ⟨g, cap, hv, hrow⟩ := row_of (l := L ++ [165]) (by rw [List.map_append]; exact hown2) (by rw [List.length_append, hL]; rfl) (by omega) hL256
      have hlen : (L ++ [165]).length = l.length + 1 := by rw [List.length_append, hL]; rfl
      rw [hlen] at hv
      subst hv
      have hp := row_parts hrow
      rw [hlen] at hp
      have hcap : l.length ≤ cap := by omega
      have hcap63 : cap ≤ 9223372036854775807 := hp.2.2.2
      have hO2 := old_grown hO1 hgrow1 (fun g e => by
        have e' : some w.heap.size = some g := e
        have := Option.some.inj e'
        omega)
      have hO3 := old_grown (old_alloc hO2 _) hgrow2 (fun g e => (hown1.lt g e).1)
      have HR := Lib.hid hrow
      clear hrow hown2 hown1 hgrow1 hgrow2 hp
      have hsl := slice_head w3 g l.length cap (l.length + 1) hcap
      rw [hsl]
      go_wp2
      go_ret
      refine ⟨g, cap, ?_, HR.out, hO3⟩
      rw [hL]
      rfl
    · have hL : L.length = 200 := by rw [← hLt, List.length_take]; omega
      have h200' : (200 : Int) < l.length := by omega
      clear hB hLt
      go_enter Try.func14, Try.ntmps14
      go_wp2_with (first | (at_builtin; have _t := tok1; refine wpList_append_own _ rfl _ _ 22 rfl w.heap.size 5 i0 (.int .u8 0) 1 1 Try.underlying22 hi hz0 hz1 hz2 rfl (by decide) _ _ [] rfl hlit a 200 c (L.map vb) rfl (by simp [hL]) (bytes_news2 hBL) (vb_one L) (by unfold maxLen; omega) (by omega) hbs ?_; intro v1 w2 hown1 hgrow1 h9; clear h9 tok1; simp only [Nat.zero_add, List.nil_append] at hown1; have hb2 := Nat.le_trans hbs hgrow1.size) | (at_builtin; have _t := tok2; refine wpList_append_own _ rfl _ _ 22 rfl w.heap.size 5 i0 (.int .u8 0) 1 1 Try.underlying22 hi hz0 hz1 hz2 rfl (by decide) _ _ _ rfl (hown1.alloc _) ⟨w2.heap.size, 0, none⟩ 1 1 [.int .u8 165] rfl rfl (one_new _ _ _) (by simp [Value.oneCell']) (by unfold maxLen; omega) (by omega) (Nat.le_trans hb2 (Nat.le_of_lt (by show w2.heap.size < (w2.heap.push _).size; rw [Array.size_push]; omega))) ?_; intro v2 w3 hown2 hgrow2 h9; clear h9 tok2))
      obtain ⟨g, cap, hv, hrow⟩ := row_of (l := L ++ [165]) (by rw [List.map_append]; exact hown2) (by rw [List.length_append, hL]; rfl) (by omega) hL256
      have hlen : (L ++ [165]).length = 201 := by rw [List.length_append, hL]; rfl
      rw [hlen] at hv
      subst hv
      have hp := row_parts hrow
      rw [hlen] at hp
      have hcap : 200 ≤ cap := by omega
      have hcap63 : cap ≤ 9223372036854775807 := hp.2.2.2
      have hO2 := old_grown hO1 hgrow1 (fun g e => by
        have e' : some w.heap.size = some g := e
        have := Option.some.inj e'
        omega)
      have hO3 := old_grown (old_alloc hO2 _) hgrow2 (fun g e => (hown1.lt g e).1)
      have HR := Lib.hid hrow
      clear hrow hown2 hown1 hgrow1 hgrow2 hp
      have hsl : (Instr.slice 22 (.slice (some ⟨g, 0, none⟩) 201 cap) none (some (.int .i64 200)) none).run Try.prog w3 = .ok (.slice (some ⟨g, 0, none⟩) 200 cap) w3 := slice_head w3 g 200 cap 201 hcap
      rw [hsl]
      go_wp2
      go_ret
      refine ⟨g, cap, ?_, HR.out, hO3⟩
      rw [hL]
      rfl
end Go.Proofs.Ytajilhckhdohnaa
