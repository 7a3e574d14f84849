/- Structs in a row: loads and stores of one of them at a place; a row of structs as a list. No function of the program stands here. -/
import Derived.Test.YtfiofjalpaeohaaOwn
import Derived.Laws.Rows
import Derived.Laws.Tables
namespace Go.Proofs.Ytfiofjalpaeohaa
set_option linter.unusedVariables false
set_option linter.unusedSimpArgs false
open Go.RowKit

section
variable {P : Program} {w : World}
theorem run_storeVar_at (g o : Nat) (t ty : TypeId) (old : Array Value) (cells : List Value) (hg : w.heap[g]? = some (.cells old t)) (hi : (P.info? ty).map (·.size) = some cells.length)
    (ho : o + cells.length ≤ old.size) (h1 : ∀ v ∈ cells, v.oneCell' = true) :
    (storeVar ty ⟨g, o, none⟩ (.agg cells.toArray)).run P w = .ok () (putB w g (.cells (old.toList.take o ++ cells ++ old.toList.drop (o + cells.length)).toArray t)) := by
  have := run_storeCells_at (P := P) g o t cells 0 old w hg (by omega) h1
  rw [Nat.add_zero] at this
  have hp : w.setRow g (old.toList.take o ++ cells ++ old.toList.drop (o + cells.length)).toArray = putB w g (.cells (old.toList.take o ++ cells ++ old.toList.drop (o + cells.length)).toArray t) := by
    unfold World.setRow putB
    rw [modify_eq_set _ _ _ _ hg]
  rw [hp] at this
  cases hq : P.info? ty with
  | none => simp [hq] at hi
  | some i =>
    have hs : cells.length = i.size := by simp [hq] at hi; omega
    simp [storeVar, sizeOf, typeInfo, hq, Value.cells, hs] at this ⊢
    exact this
theorem wpList_store_at {ops : Array Oper} {rest : List Oper} {o : Oper} {a : Act} {Q : Exit → Act → World → Prop} (hgd : o.guard = none) (ty : TypeId) (x y : Operand) (ho : o.op = .store ty x y)
    (g off : Nat) (cells : List Value) (hx : a.eval x = .pointer (some ⟨g, off, none⟩)) (hy : a.eval y = .agg cells.toArray)
    (t : TypeId) (old : Array Value) (hg : w.heap[g]? = some (.cells old t)) (hi : (P.info? ty).map (·.size) = some cells.length)
    (hold : off + cells.length ≤ old.size) (h1 : ∀ v ∈ cells, v.oneCell' = true)
    (h : wpList P ops Q rest (a.put o.dst undef) (putB w g (.cells (old.toList.take off ++ cells ++ old.toList.drop (off + cells.length)).toArray t))) : wpList P ops Q (o :: rest) a w := by
  refine wpList_plain hgd fun K hK => ?_
  unfold Oper.wp execOp
  simp only [ho, hx, hy, Instr.storeAt, Instr.sureAddr, Sem.run_bind, Sem.run_pure, Result.andThen_ok, run_storeVar_at g off t ty old cells hg hi hold h1]
  exact hK _ _ h
theorem run_loadVar_at (g o : Nat) (ty : TypeId) (cells : List Value) (d : TypeDesc) (hc : ∀ (c : Nat) (v : Value), cells[c]? = some v → w.cell? ⟨g, o + c, none⟩ = some v)
    (hu : P.underlying ty = some d) (hd : (match d with | .struct _ | .array _ _ => true | _ => false) = true) (hi : (P.info? ty).map (·.size) = some cells.length) :
    (loadVar ty ⟨g, o, none⟩).run P w = .ok (.agg cells.toArray) w := by
  have hl : (loadCells ⟨g, o, none⟩ cells.length).run P w = .ok cells.toArray w :=
    run_loadCells_list (P := P) w ⟨g, o, none⟩ cells (fun j v hv => by
      rw [add_eq _ _ rfl]
      exact hc j v hv)
  cases hq : P.info? ty with
  | none => simp [hq] at hi
  | some i =>
    have hs : i.size = cells.length := by simpa [hq] using hi
    have hagg : (isAgg ty).run P w = .ok true w := by
      unfold isAgg
      rw [Sem.run_bind, run_underlying hu w]
      cases d <;> simp_all
    simp [loadVar, Sem.run_bind, hagg, sizeOf, typeInfo, hq, hs, hl]
theorem wpList_load_at {ops : Array Oper} {rest : List Oper} {o : Oper} {a : Act} {Q : Exit → Act → World → Prop} (hgd : o.guard = none) (ty : TypeId) (x : Operand) (ho : o.op = .load ty x)
    (g off : Nat) (hx : a.eval x = .pointer (some ⟨g, off, none⟩)) (cells : List Value) (d : TypeDesc) (hc : ∀ (c : Nat) (v : Value), cells[c]? = some v → w.cell? ⟨g, off + c, none⟩ = some v)
    (hu : P.underlying ty = some d) (hd : (match d with | .struct _ | .array _ _ => true | _ => false) = true) (hi : (P.info? ty).map (·.size) = some cells.length)
    (h : wpList P ops Q rest (a.put o.dst (.agg cells.toArray)) w) : wpList P ops Q (o :: rest) a w := by
  refine wpList_plain hgd fun K hK => ?_
  unfold Oper.wp execOp
  simp only [ho, hx, Instr.loadAt, Instr.sureAddr, Sem.run_bind, Sem.run_pure, Result.andThen_ok, run_loadVar_at g off ty cells d hc hu hd hi]
  exact hK _ _ h
end

/-- A row of structs. -/
def flatC {α : Type} (f : α → List Value) : List α → List Value
  | [] => []
  | a :: l => f a ++ flatC f l
section
variable {α : Type} {f : α → List Value} {k : Nat}
theorem flatC_append (l m : List α) : flatC f (l ++ m) = flatC f l ++ flatC f m := by
  induction l with
  | nil => rfl
  | cons s l ih => simp only [List.cons_append, flatC, ih, List.append_assoc]
theorem flatC_length (hf : ∀ a, (f a).length = k) (l : List α) : (flatC f l).length = l.length * k := by
  induction l with
  | nil => simp [flatC]
  | cons s l ih => simp only [flatC, List.length_append, ih, List.length_cons, hf]; rw [Nat.add_mul]; omega
theorem flatC_get (hf : ∀ a, (f a).length = k) : ∀ (l : List α) (i : Nat) (s : α) (c : Nat) (v : Value), l[i]? = some s → (f s)[c]? = some v → (flatC f l)[i * k + c]? = some v
  | [], i, s, c, v, h, _ => by simp at h
  | t :: l, 0, s, c, v, h, hc => by
    simp at h; subst h
    have hl := (List.getElem?_eq_some_iff.1 hc).1
    simp only [flatC, Nat.zero_mul, Nat.zero_add]
    rw [List.getElem?_append_left hl]; exact hc
  | t :: l, i + 1, s, c, v, h, hc => by
    have := flatC_get hf l i s c v (by simpa using h) hc
    have e : (i + 1) * k + c = (f t).length + (i * k + c) := by rw [hf, Nat.add_mul]; omega
    rw [flatC, e, List.getElem?_append_right (Nat.le_add_right _ _), Nat.add_sub_cancel_left]; exact this
theorem flatC_set (hf : ∀ a, (f a).length = k) : ∀ (l : List α) (i : Nat) (s : α), i < l.length → (flatC f l).take (i * k) ++ f s ++ (flatC f l).drop (i * k + k) = flatC f (l.set i s)
  | [], i, s, h => by simp at h
  | t :: l, 0, s, h => by
    simp only [flatC, Nat.zero_mul, Nat.zero_add, List.take_zero, List.nil_append, List.set_cons_zero]
    rw [← hf t, List.drop_left]
  | t :: l, i + 1, s, h => by
    have := flatC_set hf l i s (by simpa using h)
    simp only [flatC, List.set_cons_succ, ← this]
    rw [Nat.add_mul, Nat.one_mul, Nat.add_comm (i * k) k, Nat.add_assoc, ← hf t, List.take_length_add_append, List.drop_length_add_append, List.append_assoc, List.append_assoc, List.append_assoc, Nat.add_comm (i * (f t).length) (f t).length]
end
end Go.Proofs.Ytfiofjalpaeohaa
