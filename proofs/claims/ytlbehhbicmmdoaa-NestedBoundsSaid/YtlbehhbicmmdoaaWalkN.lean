/- Walks as plain lists of steps: no function of the program stands here. -/
import Derived.Test.YtlbehhbicmmdoaaDescDec
import Derived.Test.YtlbehhbicmmdoaaBitsRef
namespace Go.Proofs.Ytlbehhbicmmdoaa
set_option linter.unusedVariables false
set_option linter.unusedSimpArgs false
open Go.RowKit

/-- A descriptor, plain. -/
structure D6 where
  k : Int
  a : Nat
  r : Bool
  w : Bool
  x : Bool
  s : Int
abbrev D6.v (d : D6) : Value := descV d.k d.a d.r d.w d.x d.s
/-- What a word is decoded to. -/
def decD (st lv : Int) (x : Nat) : D6 := if Place st lv ∧ x % 2 ≠ 0 ∧ decE st lv x = 0 then ⟨decK lv x, decA x, bitB x 6, bitB x 7, bitB x 8, (decS x : Nat)⟩ else ⟨0, 0, false, false, false, 0⟩
theorem decD_v (st lv : Int) (x : Nat) : decV st lv x = (decD st lv x).v := by unfold decV decD; split <;> rfl
theorem decD_a (st lv : Int) (x : Nat) : (decD st lv x).a < 18446744073709551616 := by
  unfold decD; split
  · have := decA_le x; show decA x < _; omega
  · decide
theorem decD_last (st : Int) (x : Nat) : (decD st 3 x).k ≠ 1 := by
  unfold decD; split
  · show decK 3 x ≠ 1
    unfold decK
    cases bitB x 1 <;> simp
  · decide
theorem decD_kind (st lv : Int) (x : Nat) : (decD st lv x).k = 0 ∨ (decD st lv x).k = 1 ∨ (decD st lv x).k = 2 ∨ (decD st lv x).k = 3 := by
  unfold decD; split
  · show decK lv x = 0 ∨ decK lv x = 1 ∨ decK lv x = 2 ∨ decK lv x = 3
    unfold decK
    cases bitB x 1
    · simp
    · by_cases h : lv = 3 <;> simp [h]
  · exact .inl rfl

/-- A step of a walk. -/
structure St where
  lv : Nat
  at_ : Nat
  raw : Nat
  d : D6
def St.cells (s : St) : List Value := [.int .i64 s.lv, .int .u64 (s.at_ : Nat), .int .u64 (s.raw : Nat), .int .i64 s.d.k, .int .u64 (s.d.a : Nat), .bool s.d.r, .bool s.d.w, .bool s.d.x, .int .i64 s.d.s]
def stCells : List St → List Value
  | [] => []
  | s :: l => s.cells ++ stCells l
theorem stCells_append (l m : List St) : stCells (l ++ m) = stCells l ++ stCells m := by
  induction l with
  | nil => rfl
  | cons s l ih => simp only [List.cons_append, stCells, ih, List.append_assoc]
theorem stCells_length (l : List St) : (stCells l).length = l.length * 9 := by
  induction l with
  | nil => rfl
  | cons s l ih => simp only [stCells, List.length_append, ih, List.length_cons, St.cells, List.length_nil]; omega
theorem stCells_get : ∀ (l : List St) (i : Nat) (s : St) (c : Nat) (v : Value), l[i]? = some s → s.cells[c]? = some v → (stCells l)[i * 9 + c]? = some v
  | [], i, s, c, v, h, _ => by simp at h
  | t :: l, 0, s, c, v, h, hc => by
    simp at h; subst h
    have hl := (List.getElem?_eq_some_iff.1 hc).1
    simp only [stCells, Nat.zero_mul, Nat.zero_add]
    rw [List.getElem?_append_left hl]; exact hc
  | t :: l, i + 1, s, c, v, h, hc => by
    have := stCells_get l i s c v (by simpa using h) hc
    have e : (i + 1) * 9 + c = t.cells.length + (i * 9 + c) := by simp only [St.cells, List.length_cons, List.length_nil]; omega
    rw [stCells, e, List.getElem?_append_right (Nat.le_add_right _ _), Nat.add_sub_cancel_left]; exact this

/-- Where the next word stands. -/
def atN (root addr lv : Nat) : Nat := (root + 8 * indexN addr lv) % 18446744073709551616
theorem atN_lt (root addr lv : Nat) : atN root addr lv < 18446744073709551616 := Nat.mod_lt _ (by decide)
theorem atN_wrap (root addr lv : Nat) : IntKind.u64.wrap ((root : Int) + 8 * ((indexN addr lv : Nat) : Int)) = ((atN root addr lv : Nat) : Int) := by
  unfold atN
  rw [IntKind.wrap_u64]; omega

/-- A walk from a table of level lv on, at most n more words: the steps, and what it comes to. -/
def walkN (raw : Nat → Nat) (ok : Nat → Bool) (st : Int) (addr : Nat) : Nat → Nat → Nat → List St × Int
  | 0, _, _ => ([], 0)
  | n + 1, lv, root =>
    let at_ := atN root addr lv
    if ok at_ = false then ([], -1) else
    let d := decD st lv (raw at_)
    let e := decE st lv (raw at_)
    let s : St := ⟨lv, at_, raw at_, d⟩
    if e = 2 then ([s], 3) else if e ≠ 0 then ([s], 4) else if d.k = 0 then ([s], 1) else if d.k = 1 then
      (s :: (walkN raw ok st addr n (lv + 1) d.a).1, (walkN raw ok st addr n (lv + 1) d.a).2) else ([s], 0)

section
variable {raw : Nat → Nat} {ok : Nat → Bool} {st : Int} {addr n lv root : Nat}
theorem walkN_no (h : ok (atN root addr lv) = false) : walkN raw ok st addr (n + 1) lv root = ([], -1) := by unfold walkN; simp [h]
theorem walkN_range (h : ok (atN root addr lv) = true) (he : decE st lv (raw (atN root addr lv)) = 2) : walkN raw ok st addr (n + 1) lv root = ([⟨lv, atN root addr lv, raw (atN root addr lv), decD st lv (raw (atN root addr lv))⟩], 3) := by
  unfold walkN; simp [h, he]
theorem walkN_form (h : ok (atN root addr lv) = true) (he : decE st lv (raw (atN root addr lv)) ≠ 2) (h0 : decE st lv (raw (atN root addr lv)) ≠ 0) : walkN raw ok st addr (n + 1) lv root = ([⟨lv, atN root addr lv, raw (atN root addr lv), decD st lv (raw (atN root addr lv))⟩], 4) := by
  unfold walkN; simp [h, he, h0]
theorem walkN_none (h : ok (atN root addr lv) = true) (h0 : decE st lv (raw (atN root addr lv)) = 0) (hk : (decD st lv (raw (atN root addr lv))).k = 0) : walkN raw ok st addr (n + 1) lv root = ([⟨lv, atN root addr lv, raw (atN root addr lv), decD st lv (raw (atN root addr lv))⟩], 1) := by
  unfold walkN; simp [h, h0, hk]
theorem walkN_table (h : ok (atN root addr lv) = true) (h0 : decE st lv (raw (atN root addr lv)) = 0) (hk : (decD st lv (raw (atN root addr lv))).k = 1) : walkN raw ok st addr (n + 1) lv root =
    (⟨lv, atN root addr lv, raw (atN root addr lv), decD st lv (raw (atN root addr lv))⟩ :: (walkN raw ok st addr n (lv + 1) (decD st lv (raw (atN root addr lv))).a).1, (walkN raw ok st addr n (lv + 1) (decD st lv (raw (atN root addr lv))).a).2) := by
  conv => lhs; unfold walkN
  simp [h, h0, hk]
theorem walkN_leaf (h : ok (atN root addr lv) = true) (h0 : decE st lv (raw (atN root addr lv)) = 0) (hk : (decD st lv (raw (atN root addr lv))).k ≠ 0) (hk1 : (decD st lv (raw (atN root addr lv))).k ≠ 1) : walkN raw ok st addr (n + 1) lv root = ([⟨lv, atN root addr lv, raw (atN root addr lv), decD st lv (raw (atN root addr lv))⟩], 0) := by
  unfold walkN; simp [h, h0, hk, hk1]
end
end Go.Proofs.Ytlbehhbicmmdoaa
