/- A copy of bytes with a mark behind it, append(append([]byte{}, page...), 0xA5): what its two appends give, as equations. No function of the program stands here. -/
import Derived.Test.YtfiofjalpaeohaaBytes
namespace Go.Proofs.Ytfiofjalpaeohaa
set_option linter.unusedVariables false
set_option linter.unusedSimpArgs false
open Go.RowKit

/-- An append whose run is known. -/
theorem wpList_append_run {P : Program} {w : World} {ops : Array Oper} {rest : List Oper} {o : Oper} {a : Act} {Q : Exit → Act → World → Prop} (hgd : o.guard = none) (s x : Operand) (t : TypeId)
    (ho : o.op = .call { callee := .builtin .append, args := #[s, x], argTypes := #[t, t] }) (u v : Value) (hs : a.eval s = u) (hx : a.eval x = v) (v' : Value) (w' : World)
    (hrun : (Builtin.append_ #[t, t] o.type #[u, v]).run P w = .ok v' w') (h : wpList P ops Q rest (a.put o.dst v') w') : wpList P ops Q (o :: rest) a w := by
  refine wpList_plain hgd fun K hK => ?_
  unfold Oper.wp
  simp [execOp, ho, resolve, invoke, builtin, hs, hx, hrun, Result.andThen]
  exact hK _ _ h

/-- The first bytes of a slice. -/
theorem bytes_cut {w : World} {ad : Option Addr} {c : Nat} {l : List Nat} (h : Bytes w ad c l) (n : Nat) : Bytes w ad c (l.take n) := by
  refine ⟨?_, h.2.1, h.2.2.1, fun k x hx => h.2.2.2 k x ?_⟩
  · rw [List.length_take]; exact Nat.le_trans (Nat.min_le_right _ _) h.1
  · rw [List.getElem?_take] at hx
    split at hx
    · exact hx
    · cases hx

theorem cell_new1 (w : World) (v : Value) (t : TypeId) (b : Nat) (hb : b = w.heap.size) : ∀ (j : Nat) (u : Value), [v][j]? = some u → (w.alloc (.cells #[v] t)).cell? ((⟨b, 0, none⟩ : Addr).add j) = some u := by
  subst hb
  intro j u hu
  cases j with
  | zero =>
    rw [add_eq _ _ rfl, cell_of (new_block _ _)]
    exact hu
  | succ j => simp at hu

set_option maxRecDepth 100000 in
/-- append([]byte{}, page...). -/
theorem copy_run (ty : TypeId) (w : World) (ad : Option Addr) (c : Nat) (L : List Nat) (hB : Bytes w ad c L) (hL : L.length ≤ 1000000) :
    ∃ v w2, (Builtin.append_ #[31, 31] ty #[.slice (some ⟨w.heap.size, 0, none⟩) 0 0, .slice ad L.length c]).run Try.prog (w.alloc (.cells #[] 5)) = .ok v w2 ∧
      w2.ownsRow w.heap.size 5 1 v L.length (L.map vb) ∧ Old w w2 ∧ w.heap.size < w2.heap.size := by
  obtain ⟨i0, hi, hz0, hz1, hz2⟩ := info_parts u8_info
  have hlit : (w.alloc (.cells #[] 5)).ownsRow w.heap.size 5 1 (.slice (some ⟨w.heap.size, 0, none⟩) 0 0) 0 [] := World.ownsRow_lit w #[] 0 (Nat.le_refl _) (by decide) rfl
  have hO1 : Old w (w.alloc (.cells #[] 5)) := old_alloc (old_refl w) _
  have hs1 : w.heap.size < (w.alloc (.cells #[] 5)).heap.size := by simp
  have hBL := bytes_old hB hO1
  cases ad with
  | none =>
    have h0 := hB.2.2.1 rfl
    obtain rfl : L = [] := by
      cases L with
      | nil => rfl
      | cons x l => have := hB.1; simp at this; omega
    subst h0
    exact ⟨_, _, run_append_owned_none (P := Try.prog) _ w.heap.size 31 ty 5 i0 1 Try.underlying31 hi _ 0 [] hlit, hlit, hO1, hs1⟩
  | some a =>
    obtain ⟨v, w2, hrun, hown, hgrow, -⟩ := run_append_own (P := Try.prog) (w.alloc (.cells #[] 5)) w.heap.size 31 ty 5 i0 (.int .u8 0) 1 1 Try.underlying31 hi hz0 hz1 hz2 rfl (by decide) _ 0 [] hlit a L.length c (L.map vb) (by simp) (bytes_news2 hBL) (vb_one L) (by unfold maxLen; omega) (by omega) hO1.size
    simp only [Nat.zero_add, List.nil_append] at hown
    refine ⟨v, w2, hrun, hown, old_grown hO1 hgrow (fun g e => ?_), Nat.lt_of_lt_of_le hs1 hgrow.size⟩
    have e' : some w.heap.size = some g := e
    have := Option.some.inj e'
    omega

set_option maxRecDepth 100000 in
/-- append(.., 0xA5): the copy and the mark. -/
theorem mark_run (ty : TypeId) {w w2 : World} {B : Nat} {v : Value} {L : List Nat} (h : w2.ownsRow B 5 1 v L.length (L.map vb)) (hB : B = w.heap.size) (hO : Old w w2) (hsz : w.heap.size < w2.heap.size) (hL : L.length ≤ 1000000) (h256 : ∀ x ∈ L, x < 256) :
    ∃ g cap w3, (Builtin.append_ #[31, 31] ty #[v, .slice (some ⟨w2.heap.size, 0, none⟩) 1 1]).run Try.prog (w2.alloc (.cells #[.int .u8 165] 5)) = .ok (.slice (some ⟨g, 0, none⟩) (L.length + 1) cap) w3 ∧
      Row w3 w.heap.size g cap (L ++ [165]) ∧ Old w w3 ∧ L.length + 1 ≤ cap ∧ cap ≤ maxLen := by
  subst hB
  obtain ⟨i0, hi, hz0, hz1, hz2⟩ := info_parts u8_info
  have hown1 := h.alloc (.cells #[.int .u8 165] 5)
  have hle : w.heap.size ≤ (w2.alloc (.cells #[.int .u8 165] 5)).heap.size := by simp; omega
  obtain ⟨v3, w3, hrun, hown, hgrow, -⟩ := run_append_own (P := Try.prog) (w2.alloc (.cells #[.int .u8 165] 5)) w.heap.size 31 ty 5 i0 (.int .u8 0) 1 1 Try.underlying31 hi hz0 hz1 hz2 rfl (by decide) v L.length (L.map vb) hown1 ⟨w2.heap.size, 0, none⟩ 1 1 [.int .u8 165] rfl (cell_new1 _ _ _ _ rfl) (by simp [Value.oneCell']) (by unfold maxLen; omega) (by omega) hle
  have h256' : ∀ x ∈ L ++ [165], x < 256 := by
    intro x hx
    rcases List.mem_append.1 hx with h | h
    · exact h256 x h
    · simp at h; omega
  obtain ⟨g, cap, rfl, hrow⟩ := row_of (l := L ++ [165]) (n := L.length + 1) (by rw [List.map_append]; exact hown) (by simp) (by omega) h256'
  have hlen : (L ++ [165]).length = L.length + 1 := by simp
  rw [hlen] at hrun
  have hp := row_parts hrow
  rw [hlen] at hp
  refine ⟨g, cap, w3, hrun, hrow, old_grown (old_alloc hO _) hgrow (fun g e => (hown1.lt g e).1), hp.2.2.1, hp.2.2.2⟩

set_option maxRecDepth 100000 in
theorem slice_cut (w : World) (g n cap len : Nat) (h : n ≤ cap) : (Instr.slice 31 (.slice (some ⟨g, 0, none⟩) len cap) none (some (.int .i64 n)) none).run Try.prog w = .ok (.slice (some ⟨g, 0, none⟩) n cap) w := by
  rw [run_slice_h (P := Try.prog) w 31 (some ⟨g, 0, none⟩) len cap rfl .i64 n (by omega) (by omega)]
  have hs : (sizeOf (Try.prog.elem 31)).run Try.prog w = .ok 1 w := by kernel_rfl
  rw [hs]
  simp [Result.andThen, sliced, Addr.add]
set_option maxRecDepth 100000 in
theorem slice_cut_any (w : World) (ad : Option Addr) (n cap len : Nat) (h : n ≤ cap) : (Instr.slice 31 (.slice ad len cap) none (some (.int .i64 n)) none).run Try.prog w = .ok (.slice ad n cap) w := by
  rw [run_slice_h (P := Try.prog) w 31 ad len cap rfl .i64 n (by omega) (by omega)]
  have hs : (sizeOf (Try.prog.elem 31)).run Try.prog w = .ok 1 w := by kernel_rfl
  rw [hs]
  cases ad <;> simp [Result.andThen, sliced, Addr.add]
end Go.Proofs.Ytfiofjalpaeohaa
