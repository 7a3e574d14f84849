/- 'w.At, w.W = append(w.At, a), append(w.W, x)': two rows of words grow in one statement whose order is open. -/
import Derived.Test.YtlbehhbicmmdoaaDescsArg
import Derived.Test.YtlbehhbicmmdoaaInv
import Derived.Test.YtlbehhbicmmdoaaOwn
import Derived.Test.YtlbehhbicmmdoaaFrame
import Derived.Deep.AppendLies
namespace Go.Proofs.Ytlbehhbicmmdoaa
set_option linter.unusedVariables false
set_option linter.unusedSimpArgs false
open Go.RowKit

def wordsC (l : List Nat) : List Value := l.map (fun a => .int .u64 (a : Nat))
theorem wordsC_len (l : List Nat) : (wordsC l).length = l.length * 1 := by simp [wordsC]
theorem wordsC_append (l : List Nat) (a : Nat) : wordsC (l ++ [a]) = wordsC l ++ [.int .u64 (a : Nat)] := by simp [wordsC]
theorem wordsC_get (l : List Nat) (i : Nat) {a : Nat} (h : l[i]? = some a) : (wordsC l)[i]? = some (.int .u64 (a : Nat)) := by simp [wordsC, h]
theorem word_info : (Try.prog.info? 22).map (fun i => (i.zero, i.size, i.bytes)) = some (some (.int .u64 0), 1, 8) := by kernel_rfl
abbrev OwnW (x : World) (B : Nat) (v : Value) (A : List Nat) : Prop := x.ownsRow B 22 1 v A.length (wordsC A)
theorem own_keep {F : Nat → Prop} {w w' : World} {B : Nat} {e : TypeId} {s n : Nat} {v : Value} {xs : List Value} (h : w.ownsRow B e s v n xs) (ho : Only F w w') (hF : ∀ b, v.ownBlock = some b → ¬ F b) : w'.ownsRow B e s v n xs := by
  refine ⟨h.1, ?_⟩
  rcases h.2 with h' | ⟨g, cap, cur, h', hb, hg, rest⟩
  · exact .inl h'
  · exact .inr ⟨g, cap, cur, h', hb, keep_only ho (hF g (by rw [h']; rfl)) hg, rest⟩
theorem own_mono {w : World} {B B' : Nat} {e : TypeId} {s n : Nat} {v : Value} {xs : List Value} (h : w.ownsRow B e s v n xs) (hb : B' ≤ B) : w.ownsRow B' e s v n xs :=
  ⟨h.1, h.2.imp id fun ⟨g, cap, cur, h1, h2, h3⟩ => ⟨g, cap, cur, h1, Nat.le_trans hb h2, h3⟩⟩
theorem word_append {x : World} {B : Nat} {v : Value} {A : List Nat} (h : OwnW x B v A) (hl : A.length ≤ 1000) (hB : B ≤ x.heap.size) (a q : Nat) (hq : x.heap[q]? = some (.cells #[.int .u64 (a : Nat)] 22)) :
    ∃ g cap x', (Builtin.append_ #[24, 24] 24 #[v, .slice (some ⟨q, 0, none⟩) 1 1]).run Try.prog x = .ok (.slice (some ⟨g, 0, none⟩) (A.length + 1) cap) x' ∧
      OwnW x' B (.slice (some ⟨g, 0, none⟩) (A.length + 1) cap) (A ++ [a]) ∧ Only (fun b => some b = v.ownBlock) x x' ∧ (v.ownBlock = some g ∨ g = x.heap.size) ∧ g < x'.heap.size := by
  obtain ⟨i0, hi, hz0, hz1, hz2⟩ := info_parts word_info
  obtain ⟨g, cap, x', hr, ho, hgr, hl1, hl2⟩ := run_append_lies (P := Try.prog) x 24 24 B 22 i0 _ 1 8 Try.underlying24 hi hz0 hz1 hz2 rfl (by decide) v A.length (wordsC A) h ⟨q, 0, none⟩ 1 1 [.int .u64 (a : Nat)] rfl
    (fun j u hu => by
      rw [add_eq _ _ rfl, Nat.zero_add, cell_of hq]
      simpa using hu) (fun u hu => by simp at hu; subst hu; rfl) (by decide) (by unfold maxLen; omega) (by omega) hB _ rfl
  refine ⟨g, cap, x', hr, ?_, grown_only hgr, hl1, hl2⟩
  show x'.ownsRow B _ 1 _ (A ++ [a]).length (wordsC (A ++ [a]))
  rw [List.length_append, wordsC_append]
  exact ho

/-- What has come of each operation. -/
def PairV (wb at_ X : Nat) (v1 v2 : Value) (j : Nat) (v : Value) : Prop :=
  match j with
  | 0 => v = .pointer (some ⟨wb, 0, none⟩)
  | 1 => v = v1
  | 2 => v = .int .u64 (at_ : Nat)
  | 5 => v = .pointer (some ⟨wb, 1, none⟩)
  | 6 => v = v2
  | 7 => v = .int .u64 (X : Nat)
  | 10 => v = .pointer (some ⟨wb, 0, none⟩)
  | 12 => v = .pointer (some ⟨wb, 1, none⟩)
  | _ => True
/-- The memory meanwhile. -/
structure PairW (x0 : World) (B wb at_ X : Nat) (v1 v2 : Value) (A W : List Nat) (l : Array Bool) (g3 g4 g8 g9 : Value) (x : World) : Prop where
  r1 : OwnW x B (bif l.getD 4 false then g4 else v1) (bif l.getD 4 false then A ++ [at_] else A)
  r2 : OwnW x B (bif l.getD 9 false then g9 else v2) (bif l.getD 9 false then W ++ [X] else W)
  dis : ∀ b, (bif l.getD 4 false then g4 else v1).ownBlock = some b → (bif l.getD 9 false then g9 else v2).ownBlock = some b → False
  t3 : l.getD 3 false = true → l.getD 4 false = false → ∃ q, g3 = .slice (some ⟨q, 0, none⟩) 1 1 ∧ x.heap[q]? = some (.cells #[.int .u64 (at_ : Nat)] 22)
  t8 : l.getD 8 false = true → l.getD 9 false = false → ∃ q, g8 = .slice (some ⟨q, 0, none⟩) 1 1 ∧ x.heap[q]? = some (.cells #[.int .u64 (X : Nat)] 22) ∧ (bif l.getD 4 false then g4 else v1).ownBlock ≠ some q
  hw : x.heap[wb]? = some (.cells #[bif l.getD 11 false then g4 else v1, bif l.getD 13 false then g9 else v2] 26)
  only : Only (fun b => B ≤ b ∨ b = wb) x0 x
  o43 : l.getD 4 false = true → l.getD 3 false = true
  o98 : l.getD 9 false = true → l.getD 8 false = true
  o94 : l.getD 9 false = true → l.getD 4 false = true
  o11 : l.getD 11 false = true → l.getD 4 false = true
  o13 : l.getD 13 false = true → l.getD 9 false = true
  sB : B ≤ x.heap.size
  hwB : wb < B
section
variable {x0 x : World} {B wb at_ X : Nat} {v1 v2 : Value} {A W : List Nat} {l : Array Bool} {g3 g4 g8 g9 : Value}
theorem false_of {b : Bool} (h : b = true → False) : b = false := by cases b; rfl; exact (h rfl).elim
theorem pairW_other (j : Nat) (h3 : j ≠ 3) (h4 : j ≠ 4) (h8 : j ≠ 8) (h9 : j ≠ 9) (h11 : j ≠ 11) (h13 : j ≠ 13) (h : PairW x0 B wb at_ X v1 v2 A W l g3 g4 g8 g9 x) : PairW x0 B wb at_ X v1 v2 A W (l.setIfInBounds j true) g3 g4 g8 g9 x := by
  obtain ⟨a1, a2, a3, a4, a5, a6, a7, a8, a9, b1, b2, b3, b4, b5⟩ := h
  constructor <;> ((try simp only [getD_set_ne false h3, getD_set_ne false h4, getD_set_ne false h8, getD_set_ne false h9, getD_set_ne false h11, getD_set_ne false h13]); assumption)
theorem pairW_3 {N : Nat} (hz : l.size = N) (hN : 13 < N) (hn : l.getD 3 false = false) (h : PairW x0 B wb at_ X v1 v2 A W l g3 g4 g8 g9 x) :
    PairW x0 B wb at_ X v1 v2 A W (l.setIfInBounds 3 true) (.slice (some ⟨x.heap.size, 0, none⟩) 1 1) g4 g8 g9 (x.alloc (.cells #[.int .u64 (at_ : Nat)] 22)) := by
  obtain ⟨a1, a2, a3, a4, a5, a6, a7, a8, a9, b1, b2, b3, b4, b5⟩ := h
  have hO := old_alloc (old_refl x) (.cells #[.int .u64 (at_ : Nat)] 22)
  have e3 : (l.setIfInBounds 3 true).getD 3 false = true := by simp [hz]; omega
  constructor <;> (try simp only [getD_set_ne false (show (3 : Nat) ≠ 4 by decide), getD_set_ne false (show (3 : Nat) ≠ 8 by decide), getD_set_ne false (show (3 : Nat) ≠ 9 by decide), getD_set_ne false (show (3 : Nat) ≠ 11 by decide), getD_set_ne false (show (3 : Nat) ≠ 13 by decide), e3])
  · exact own_old a1 hO
  · exact own_old a2 hO
  · exact a3
  · exact fun _ _ => ⟨_, rfl, new_block _ _⟩
  · intro e8 e9
    obtain ⟨q, q1, q2, q3⟩ := a5 e8 e9
    exact ⟨q, q1, keep_alloc _ q2, q3⟩
  · exact keep_alloc _ a6
  · exact a7.alloc _
  · exact fun _ => trivial
  · exact a9
  · exact b1
  · exact b2
  · exact b3
  · rw [World.size_alloc]; omega
  · exact b5
theorem pairW_8 {N : Nat} (hz : l.size = N) (hN : 13 < N) (hn : l.getD 8 false = false) (h : PairW x0 B wb at_ X v1 v2 A W l g3 g4 g8 g9 x) :
    PairW x0 B wb at_ X v1 v2 A W (l.setIfInBounds 8 true) g3 g4 (.slice (some ⟨x.heap.size, 0, none⟩) 1 1) g9 (x.alloc (.cells #[.int .u64 (X : Nat)] 22)) := by
  obtain ⟨a1, a2, a3, a4, a5, a6, a7, a8, a9, b1, b2, b3, b4, b5⟩ := h
  have hO := old_alloc (old_refl x) (.cells #[.int .u64 (X : Nat)] 22)
  have e3 : (l.setIfInBounds 8 true).getD 8 false = true := by simp [hz]; omega
  constructor <;> (try simp only [getD_set_ne false (show (8 : Nat) ≠ 3 by decide), getD_set_ne false (show (8 : Nat) ≠ 4 by decide), getD_set_ne false (show (8 : Nat) ≠ 9 by decide), getD_set_ne false (show (8 : Nat) ≠ 11 by decide), getD_set_ne false (show (8 : Nat) ≠ 13 by decide), e3])
  · exact own_old a1 hO
  · exact own_old a2 hO
  · exact a3
  · intro e8 e9
    obtain ⟨q, q1, q2⟩ := a4 e8 e9
    exact ⟨q, q1, keep_alloc _ q2⟩
  · refine fun _ _ => ⟨_, rfl, new_block _ _, fun e => ?_⟩
    have := (a1.lt _ e).2
    omega
  · exact keep_alloc _ a6
  · exact a7.alloc _
  · exact a8
  · exact fun _ => trivial
  · exact b1
  · exact b2
  · exact b3
  · rw [World.size_alloc]; omega
  · exact b5
theorem pairW_4 {N : Nat} (hz : l.size = N) (hN : 13 < N) (hn : l.getD 4 false = false) (hp : l.getD 3 false = true) (hA : A.length ≤ 1000) (h : PairW x0 B wb at_ X v1 v2 A W l g3 g4 g8 g9 x) :
    ∃ q g cap x', g3 = .slice (some ⟨q, 0, none⟩) 1 1 ∧ (Builtin.append_ #[24, 24] 24 #[v1, .slice (some ⟨q, 0, none⟩) 1 1]).run Try.prog x = .ok (.slice (some ⟨g, 0, none⟩) (A.length + 1) cap) x' ∧
      PairW x0 B wb at_ X v1 v2 A W (l.setIfInBounds 4 true) g3 (.slice (some ⟨g, 0, none⟩) (A.length + 1) cap) g8 g9 x' ∧ Only (fun b => some b = v1.ownBlock) x x' := by
  obtain ⟨a1, a2, a3, a4, a5, a6, a7, a8, a9, b1, b2, b3, b4, b5⟩ := h
  have n9 : l.getD 9 false = false := false_of fun e => by have := b1 e; rw [hn] at this; cases this
  have n11 : l.getD 11 false = false := false_of fun e => by have := b2 e; rw [hn] at this; cases this
  have n13 : l.getD 13 false = false := false_of fun e => by have := b3 e; rw [n9] at this; cases this
  rw [hn] at a1
  rw [n9] at a2
  rw [hn, n9] at a3
  rw [n11, n13] at a6
  have a1 : OwnW x B v1 A := a1
  have a2 : OwnW x B v2 W := a2
  obtain ⟨q, rfl, hq⟩ := a4 hp hn
  obtain ⟨g, cap, x', hr, ho, hon, hl1, hl2⟩ := word_append a1 hA b4 at_ q hq
  have e4 : (l.setIfInBounds 4 true).getD 4 false = true := by simp [hz]; omega
  have hwne : ¬ some wb = v1.ownBlock := fun e => by have := (a1.lt wb e.symm).1; omega
  refine ⟨q, g, cap, x', rfl, hr, ?_, hon⟩
  constructor <;> (try simp only [getD_set_ne false (show (4 : Nat) ≠ 3 by decide), getD_set_ne false (show (4 : Nat) ≠ 8 by decide), getD_set_ne false (show (4 : Nat) ≠ 9 by decide), getD_set_ne false (show (4 : Nat) ≠ 11 by decide), getD_set_ne false (show (4 : Nat) ≠ 13 by decide), e4, n9, n11, n13])
  · have : (A ++ [at_]).length = A.length + 1 := by simp
    exact ho
  · exact own_keep a2 hon (fun b hb e => a3 b e.symm hb)
  · intro b hb hb2
    have hb2 : v2.ownBlock = some b := hb2
    have hb : some g = some b := hb
    obtain rfl := Option.some.inj hb
    rcases hl1 with e | e
    · exact a3 g e hb2
    · have := (a2.lt g hb2).2; omega
  · exact fun _ e => by cases e
  · intro e8 _
    obtain ⟨q2, q21, q22, q23⟩ := a5 e8 n9
    rw [hn] at q23
    refine ⟨q2, q21, keep_only hon (fun e => q23 e.symm) q22, fun e => ?_⟩
    have e : some g = some q2 := e
    obtain rfl := Option.some.inj e
    rcases hl1 with e | e
    · exact q23 e
    · have := lt_of_block q22; omega
  · exact keep_only hon hwne a6
  · exact a7.trans (hon.mono fun b _ e => .inl (a1.lt b e.symm).1)
  · exact fun _ => hp
  · exact fun e => by cases e
  · exact fun _ => trivial
  · exact fun _ => trivial
  · exact fun e => by cases e
  · exact Nat.le_trans b4 hon.size
  · exact b5
theorem pairW_9 {N : Nat} (hz : l.size = N) (hN : 13 < N) (hn : l.getD 9 false = false) (hp : l.getD 8 false = true) (hp4 : l.getD 4 false = true) (hW : W.length ≤ 1000) (h : PairW x0 B wb at_ X v1 v2 A W l g3 g4 g8 g9 x) :
    ∃ q g cap x', g8 = .slice (some ⟨q, 0, none⟩) 1 1 ∧ (Builtin.append_ #[24, 24] 24 #[v2, .slice (some ⟨q, 0, none⟩) 1 1]).run Try.prog x = .ok (.slice (some ⟨g, 0, none⟩) (W.length + 1) cap) x' ∧
      PairW x0 B wb at_ X v1 v2 A W (l.setIfInBounds 9 true) g3 g4 g8 (.slice (some ⟨g, 0, none⟩) (W.length + 1) cap) x' ∧ Only (fun b => some b = v2.ownBlock) x x' := by
  obtain ⟨a1, a2, a3, a4, a5, a6, a7, a8, a9, b1, b2, b3, b4, b5⟩ := h
  have n13 : l.getD 13 false = false := false_of fun e => by have := b3 e; rw [hn] at this; cases this
  rw [hn] at a2
  rw [hn] at a3
  rw [n13] at a6
  have a2 : OwnW x B v2 W := a2
  obtain ⟨q, rfl, hq, _⟩ := a5 hp hn
  obtain ⟨g, cap, x', hr, ho, hon, hl1, hl2⟩ := word_append a2 hW b4 X q hq
  have e9 : (l.setIfInBounds 9 true).getD 9 false = true := by simp [hz]; omega
  have hwne : ¬ some wb = v2.ownBlock := fun e => by have := (a2.lt wb e.symm).1; omega
  refine ⟨q, g, cap, x', rfl, hr, ?_, hon⟩
  constructor <;> (try simp only [getD_set_ne false (show (9 : Nat) ≠ 3 by decide), getD_set_ne false (show (9 : Nat) ≠ 8 by decide), getD_set_ne false (show (9 : Nat) ≠ 4 by decide), getD_set_ne false (show (9 : Nat) ≠ 11 by decide), getD_set_ne false (show (9 : Nat) ≠ 13 by decide), e9, n13])
  · exact own_keep a1 hon (fun b hb e => a3 b hb e.symm)
  · exact ho
  · intro b hb hb2
    have hb2 : some g = some b := hb2
    obtain rfl := Option.some.inj hb2
    rcases hl1 with e | e
    · exact a3 g hb e
    · have := (a1.lt g hb).2; omega
  · intro _ e; rw [hp4] at e; cases e
  · exact fun _ e => by cases e
  · exact keep_only hon hwne a6
  · exact a7.trans (hon.mono fun b _ e => .inl (a2.lt b e.symm).1)
  · exact a8
  · exact fun _ => hp
  · exact fun _ => hp4
  · exact b2
  · exact fun e => by cases e
  · exact Nat.le_trans b4 hon.size
  · exact b5
theorem pairW_11 {N : Nat} (hz : l.size = N) (hN : 13 < N) (hn : l.getD 11 false = false) (hp4 : l.getD 4 false = true) (h : PairW x0 B wb at_ X v1 v2 A W l g3 g4 g8 g9 x) :
    PairW x0 B wb at_ X v1 v2 A W (l.setIfInBounds 11 true) g3 g4 g8 g9 (putB x wb (.cells #[g4, bif l.getD 13 false then g9 else v2] 26)) := by
  obtain ⟨a1, a2, a3, a4, a5, a6, a7, a8, a9, b1, b2, b3, b4, b5⟩ := h
  have e : (l.setIfInBounds 11 true).getD 11 false = true := by simp [hz]; omega
  have hp : Only (fun b => b = wb) x (putB x wb (.cells #[g4, bif l.getD 13 false then g9 else v2] 26)) := (Only.refl _ x).putB _ (fun _ => rfl)
  constructor <;> (try simp only [getD_set_ne false (show (11 : Nat) ≠ 3 by decide), getD_set_ne false (show (11 : Nat) ≠ 8 by decide), getD_set_ne false (show (11 : Nat) ≠ 4 by decide), getD_set_ne false (show (11 : Nat) ≠ 9 by decide), getD_set_ne false (show (11 : Nat) ≠ 13 by decide), e])
  · exact own_keep a1 hp (fun b hb e => by have := (a1.lt b hb).1; omega)
  · exact own_keep a2 hp (fun b hb e => by have := (a2.lt b hb).1; omega)
  · exact a3
  · intro _ e; rw [hp4] at e; cases e
  · intro e8 e9
    obtain ⟨q, q1, q2, q3⟩ := a5 e8 e9
    refine ⟨q, q1, keep_only hp (fun e => ?_) q2, q3⟩
    subst e
    rw [a6] at q2
    simp at q2
  · exact putB_same _ (lt_of_block a6)
  · exact a7.putB _ (fun _ => .inr rfl)
  · exact a8
  · exact a9
  · exact b1
  · exact fun _ => hp4
  · exact b3
  · exact Nat.le_trans b4 hp.size
  · exact b5
theorem pairW_13 {N : Nat} (hz : l.size = N) (hN : 13 < N) (hn : l.getD 13 false = false) (hp9 : l.getD 9 false = true) (h : PairW x0 B wb at_ X v1 v2 A W l g3 g4 g8 g9 x) :
    PairW x0 B wb at_ X v1 v2 A W (l.setIfInBounds 13 true) g3 g4 g8 g9 (putB x wb (.cells #[bif l.getD 11 false then g4 else v1, g9] 26)) := by
  obtain ⟨a1, a2, a3, a4, a5, a6, a7, a8, a9, b1, b2, b3, b4, b5⟩ := h
  have e : (l.setIfInBounds 13 true).getD 13 false = true := by simp [hz]; omega
  have hp : Only (fun b => b = wb) x (putB x wb (.cells #[bif l.getD 11 false then g4 else v1, g9] 26)) := (Only.refl _ x).putB _ (fun _ => rfl)
  constructor <;> (try simp only [getD_set_ne false (show (13 : Nat) ≠ 3 by decide), getD_set_ne false (show (13 : Nat) ≠ 8 by decide), getD_set_ne false (show (13 : Nat) ≠ 4 by decide), getD_set_ne false (show (13 : Nat) ≠ 9 by decide), getD_set_ne false (show (13 : Nat) ≠ 11 by decide), e])
  · exact own_keep a1 hp (fun b hb e => by have := (a1.lt b hb).1; omega)
  · exact own_keep a2 hp (fun b hb e => by have := (a2.lt b hb).1; omega)
  · exact a3
  · intro _ e; rw [b1 hp9] at e; cases e
  · intro _ e; rw [hp9] at e; cases e
  · exact putB_same _ (lt_of_block a6)
  · exact a7.putB _ (fun _ => .inr rfl)
  · exact a8
  · exact a9
  · exact b1
  · exact b2
  · exact fun _ => hp9
  · exact Nat.le_trans b4 hp.size
  · exact b5
end
theorem bits_keep {l : Array Bool} {a b : Nat} (j : Nat) (h : l.getD a false = true → l.getD b false = true) (hj : j ≠ a ∨ l.getD b false = true) : (l.setIfInBounds j true).getD a false = true → (l.setIfInBounds j true).getD b false = true := by
  intro e
  rcases hj with hj | hj
  · rw [getD_set_ne false hj] at e
    exact getD_set_true (h e)
  · exact getD_set_true hj
/-- The values that have come. -/
def PairF (wb at_ X : Nat) (v1 v2 : Value) (l : Array Bool) (p0 p1 p2 p5 p6 p7 p10 p12 : Value) : Prop :=
  (l.getD 0 false = true → p0 = .pointer (some ⟨wb, 0, none⟩)) ∧ (l.getD 1 false = true → p1 = v1) ∧ (l.getD 2 false = true → p2 = .int .u64 (at_ : Nat)) ∧ (l.getD 5 false = true → p5 = .pointer (some ⟨wb, 1, none⟩)) ∧
  (l.getD 6 false = true → p6 = v2) ∧ (l.getD 7 false = true → p7 = .int .u64 (X : Nat)) ∧ (l.getD 10 false = true → p10 = .pointer (some ⟨wb, 0, none⟩)) ∧ (l.getD 12 false = true → p12 = .pointer (some ⟨wb, 1, none⟩))
theorem pairF_set {wb at_ X : Nat} {v1 v2 : Value} {l : Array Bool} {p0 p1 p2 p5 p6 p7 p10 p12 q0 q1 q2 q5 q6 q7 q10 q12 : Value} (j : Nat) (h : PairF wb at_ X v1 v2 l p0 p1 p2 p5 p6 p7 p10 p12)
    (h0 : (j ≠ 0 ∧ q0 = p0) ∨ q0 = .pointer (some ⟨wb, 0, none⟩)) (h1 : (j ≠ 1 ∧ q1 = p1) ∨ q1 = v1) (h2 : (j ≠ 2 ∧ q2 = p2) ∨ q2 = .int .u64 (at_ : Nat)) (h5 : (j ≠ 5 ∧ q5 = p5) ∨ q5 = .pointer (some ⟨wb, 1, none⟩))
    (h6 : (j ≠ 6 ∧ q6 = p6) ∨ q6 = v2) (h7 : (j ≠ 7 ∧ q7 = p7) ∨ q7 = .int .u64 (X : Nat)) (h10 : (j ≠ 10 ∧ q10 = p10) ∨ q10 = .pointer (some ⟨wb, 0, none⟩)) (h12 : (j ≠ 12 ∧ q12 = p12) ∨ q12 = .pointer (some ⟨wb, 1, none⟩)) :
    PairF wb at_ X v1 v2 (l.setIfInBounds j true) q0 q1 q2 q5 q6 q7 q10 q12 := by
  obtain ⟨a0, a1, a2, a5, a6, a7, a10, a12⟩ := h
  refine ⟨fun e => ?_, fun e => ?_, fun e => ?_, fun e => ?_, fun e => ?_, fun e => ?_, fun e => ?_, fun e => ?_⟩
  · rcases h0 with ⟨hj, rfl⟩ | h; (· rw [getD_set_ne false hj] at e; exact a0 e); (· exact h)
  · rcases h1 with ⟨hj, rfl⟩ | h; (· rw [getD_set_ne false hj] at e; exact a1 e); (· exact h)
  · rcases h2 with ⟨hj, rfl⟩ | h; (· rw [getD_set_ne false hj] at e; exact a2 e); (· exact h)
  · rcases h5 with ⟨hj, rfl⟩ | h; (· rw [getD_set_ne false hj] at e; exact a5 e); (· exact h)
  · rcases h6 with ⟨hj, rfl⟩ | h; (· rw [getD_set_ne false hj] at e; exact a6 e); (· exact h)
  · rcases h7 with ⟨hj, rfl⟩ | h; (· rw [getD_set_ne false hj] at e; exact a7 e); (· exact h)
  · rcases h10 with ⟨hj, rfl⟩ | h; (· rw [getD_set_ne false hj] at e; exact a10 e); (· exact h)
  · rcases h12 with ⟨hj, rfl⟩ | h; (· rw [getD_set_ne false hj] at e; exact a12 e); (· exact h)
theorem pairF_start (wb at_ X : Nat) (v1 v2 p0 p1 p2 p5 p6 p7 p10 p12 : Value) (N : Nat) : PairF wb at_ X v1 v2 (Array.replicate N false) p0 p1 p2 p5 p6 p7 p10 p12 := by
  have e : ∀ k, (Array.replicate N false).getD k false = false := fun k => by simp [Array.getElem?_replicate]; split <;> rfl
  refine ⟨?_, ?_, ?_, ?_, ?_, ?_, ?_, ?_⟩ <;> (intro h; rw [e] at h; cases h)

section
variable {P : Program} {ops : Array Oper} {Q : Exit → Act → World → Prop}
/-- wp_region_inv, the frame told by its new slots. -/
theorem wp_region_invF {id : Nat} {a : Act} {w : World} (m : List Bool) (S : Array Bool → (Nat → Value) → World → Prop) (hm : P.follows .mixedOrders = true) (hok : seqOk ops = true) (hS : S (Array.replicate ops.size false) (slotF a) w.drew)
    (step : ∀ j o, ops[j]? = some o → ∀ l f x, l.size = ops.size → l.getD j false = false → AllMet ops l j → S l f x → wpList P ops (PostS (fun b y => b = mergeA m (slotF b) a ∧ S (l.setIfInBounds j true) (slotF b) y) Q) [o] (mergeA m f a) x)
    (final : ∀ l f x, l.size = ops.size → (∀ k, k < ops.size → l.getD k false = true) → S l f x → Q .normal (mergeA m f a) x) : (Code.region id ops true).wp P Q a w := by
  refine wp_region_inv (fun l b x => b = mergeA m (slotF b) a ∧ S l (slotF b) x) hm hok ⟨(mergeA_self m a).symm, hS⟩ ?_ ?_
  · rintro j o ho l b x hl hn hmet ⟨hb, hs⟩
    have := step j o ho l (slotF b) x hl hn hmet hs
    rw [← hb] at this
    exact this
  · rintro l b x hl hall ⟨hb, hs⟩
    have := final l (slotF b) x hl hall hs
    rw [← hb] at this
    exact this
end
end Go.Proofs.Ytlbehhbicmmdoaa
