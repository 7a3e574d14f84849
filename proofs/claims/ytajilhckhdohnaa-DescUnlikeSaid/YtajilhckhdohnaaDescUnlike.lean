/- The statement DescUnlike: its walk. -/
import Derived.Test.YtajilhckhdohnaaDescBack
import Derived.Test.YtajilhckhdohnaaTwoNew
namespace Go.Proofs.Ytajilhckhdohnaa
set_option linter.unusedVariables false
set_option linter.unusedSimpArgs false
open Go.RowKit

theorem holds_put2 {w x : World} {C1 C2 : Array Value} {t1 t2 : TypeId} {p : Nat} (o : Obj) (h : Holds w [(w.heap.size + 1, C1, t1), (w.heap.size, C2, t2)] x) (hp : w.heap.size + 1 < p) : Holds w [(w.heap.size + 1, C1, t1), (w.heap.size, C2, t2)] (putB x p o) := by
  obtain ⟨h0, h1, h2, _⟩ := h
  exact ⟨old_put h0 _ (by omega), by rw [putB_other _ (show p ≠ _ by omega)]; exact h1, by rw [putB_other _ (show p ≠ _ by omega)]; exact h2, trivial⟩

/-- Unlike descriptors have unlike words. -/
theorem unlike_words {st lv k : Int} {a : Nat} {r wr x : Bool} {s : Nat} {k' : Int} {a' : Nat} {r' wr' x' : Bool} {s' : Nat} (hp : Place st lv) (h : checkC st lv k a r wr x (s : Nat) = 0) (h' : checkC st lv k' a' r' wr' x' (s' : Nat) = 0) :
    (((encW st lv k a r wr x (s : Nat) : Nat) : Int) == ((encW st lv k' a' r' wr' x' (s' : Nat) : Nat) : Int)) =
      (k == k' && ((a : Int) == (a' : Int) && ((r == r' && (wr == wr' && (x == x' && true))) && ((s : Int) == (s' : Int) && true)))) := by
  have b1 := (back_word hp h).1
  have b2 := (back_word hp h').1
  by_cases he : encW st lv k a r wr x (s : Nat) = encW st lv k' a' r' wr' x' (s' : Nat)
  · have e : descV k a r wr x (s : Nat) = descV k' a' r' wr' x' (s' : Nat) := b1.symm.trans ((congrArg (decV st lv) he).trans b2)
    rw [he]
    injection e with e
    injection e with e
    simp only [List.cons.injEq, Value.int.injEq, Value.bool.injEq, true_and, and_true] at e
    obtain ⟨e1, e2, e3, e4, e5, e6⟩ := e
    subst e1 e3 e4 e5
    rw [e2, e6]
    simp
  · have hne : (((encW st lv k a r wr x (s : Nat) : Nat) : Int) == ((encW st lv k' a' r' wr' x' (s' : Nat) : Nat) : Int)) = false := by rw [beq_eq_false_iff_ne]; omega
    rw [hne]
    symm
    rw [← Bool.not_eq_true]
    intro e
    simp only [Bool.and_eq_true, beq_iff_eq, and_true] at e
    obtain ⟨e1, e2, ⟨e3, e4, e5⟩, e6⟩ := e
    subst e1 e3 e4 e5
    have e2 : a = a' := by omega
    have e6 : s = s' := by omega
    subst e2 e6
    exact he rfl

/-- The frame and the world. -/
def UnlS (w : World) (st lv S0 S L k : Int) (a : Nat) (r wr x : Bool) (s k' : Int) (a' : Nat) (r' wr' x' : Bool) (s' mk : Int) (ma : Nat) (mr mw mx : Bool) (ms : Nat) (nk : Int) (na : Nat) (nr nw nx : Bool) (ns : Nat) (l : Array Bool) (b : Act) (X : World) : Prop :=
  ∃ v11 v12 v0 v1 v2 v3 v4 v5 v6 v7 : Value, b = { tmps := #[.int .i64 st, .int .i64 lv, .agg #[.int .i64 k, .int .u64 (a : Nat), .bool r, .bool wr, .bool x, .int .i64 s], .agg #[.int .i64 k', .int .u64 (a' : Nat), .bool r', .bool wr', .bool x', .int .i64 s'], undef, undef, .pointer (some ⟨w.heap.size, 0, none⟩), .pointer (some ⟨w.heap.size + 1, 0, none⟩), .bool false, .int .i64 S, .int .i64 L, v11, v12, undef, undef, undef, undef, .int .i64 st, .int .i64 S0, .int .i64 S, .int .i64 lv, .int .i64 L, v0, v1, v2, v3, v4, v5, v6, v7, undef, undef, undef, undef, undef, undef, undef, undef, undef, undef, undef, undef, undef, undef, undef, undef, undef, undef, undef, undef, undef, undef, undef, undef, undef, undef, undef, undef, undef, undef, undef, undef], defers := [] } ∧ Holds w [(w.heap.size + 1, #[.int .i64 k', .int .u64 (a' : Nat), .bool r', .bool wr', .bool x', .int .i64 s'], 47), (w.heap.size, #[.int .i64 k, .int .u64 (a : Nat), .bool r, .bool wr, .bool x, .int .i64 s], 47)] X ∧ EightVals (.int .i64 S) (.int .i64 L) (.agg #[.int .i64 k, .int .u64 (a : Nat), .bool r, .bool wr, .bool x, .int .i64 s]) (.agg #[.int .i64 mk, .int .u64 (ma : Nat), .bool mr, .bool mw, .bool mx, .int .i64 (ms : Nat)]) (.int .i64 S) (.int .i64 L) (.agg #[.int .i64 k', .int .u64 (a' : Nat), .bool r', .bool wr', .bool x', .int .i64 s']) (.agg #[.int .i64 nk, .int .u64 (na : Nat), .bool nr, .bool nw, .bool nx, .int .i64 (ns : Nat)]) l v0 v1 v2 v3 v4 v5 v6 v7 ∧ TwoNew (w.heap.size + 1) #[.int .i64 0, .int .u64 0, .bool false, .bool false, .bool false, .int .i64 0] #[.int .i64 mk, .int .u64 (ma : Nat), .bool mr, .bool mw, .bool mx, .int .i64 (ms : Nat)] #[.int .i64 nk, .int .u64 (na : Nat), .bool nr, .bool nw, .bool nx, .int .i64 (ns : Nat)] 47 l v11 v12 X

set_option maxHeartbeats 8000000 in
set_option maxRecDepth 100000 in
theorem descUnlike_walk (st : Int) (_ : (Lit.int .i64 st).wf = true) (lv : Int) (_ : (Lit.int .i64 lv).wf = true) (k : Int) (_ : (Lit.int .i64 k).wf = true) (ai : Int) (ha0 : (Lit.int .u64 ai).wf = true) (r wr x : Bool) (s : Int) (_ : (Lit.int .i64 s).wf = true)
    (k' : Int) (_ : (Lit.int .i64 k').wf = true) (ai' : Int) (ha0' : (Lit.int .u64 ai').wf = true) (r' wr' x' : Bool) (s' : Int) (_ : (Lit.int .i64 s').wf = true) (w : World) :
    Calls Try.prog 12 #[.int .i64 st, .int .i64 lv, .agg #[.int .i64 k, .int .u64 ai, .bool r, .bool wr, .bool x, .int .i64 s], .agg #[.int .i64 k', .int .u64 ai', .bool r', .bool wr', .bool x', .int .i64 s']] w (RetB w (.bool true)) := by
  obtain ⟨a, rfl, _⟩ := wf_u64 ha0
  obtain ⟨a', rfl, _⟩ := wf_u64 ha0'
  obtain ⟨S0, S, L, hm1, hS, hm3, hp⟩ := stage_level st lv
  have hnear := fun w => near_calls S L k a r wr x s w hp
  have hnear' := fun w => near_calls S L k' a' r' wr' x' s' w hp
  unfold nearV descV at hnear hnear'
  have hnc := @near_check S L k a r wr x s hp
  have hnc' := @near_check S L k' a' r' wr' x' s' hp
  have e1 := encode_calls S L (nearK L k) (nearA S L k a) (nearR L k r) (nearW L k r wr) (nearR L k x) (nearS L k s : Nat)
  have e2 := encode_calls S L (nearK L k') (nearA S L k' a') (nearR L k' r') (nearW L k' r' wr') (nearR L k' x') (nearS L k' s' : Nat)
  have hXY := unlike_words hp hnc hnc'
  rw [hnc] at e1
  rw [hnc'] at e2
  clear hnc hnc' hp
  generalize encW S L (nearK L k) (nearA S L k a) (nearR L k r) (nearW L k r wr) (nearR L k x) (nearS L k s : Nat) = X at *
  generalize encW S L (nearK L k') (nearA S L k' a') (nearR L k' r') (nearW L k' r' wr') (nearR L k' x') (nearS L k' s' : Nat) = Y at *
  generalize nearK L k = mk at *
  generalize nearA S L k a = ma at *
  generalize nearR L k r = mr at *
  generalize nearW L k r wr = mw at *
  generalize nearR L k x = mx at *
  generalize nearS L k s = ms at *
  generalize nearK L k' = nk at *
  generalize nearA S L k' a' = na at *
  generalize nearR L k' r' = nr at *
  generalize nearW L k' r' wr' = nw at *
  generalize nearR L k' x' = nx at *
  generalize nearS L k' s' = ns at *
  have heq := eq_desc mk ma ms nk na ns mr mw mx nr nw nx
  rw [← hXY] at heq
  clear hXY
  go_enter Try.func12, Try.ntmps12
  go_upto_region 2 with (fail)
  have hH := holds_new #[.int .i64 k', .int .u64 (a' : Nat), .bool r', .bool wr', .bool x', .int .i64 s'] 47 (holds_new #[.int .i64 k, .int .u64 (a : Nat), .bool r, .bool wr, .bool x, .int .i64 s] 47 (holds_nil w))
  simp only [World.size_alloc] at hH
  generalize (w.alloc (.cells #[.int .i64 k, .int .u64 (a : Nat), .bool r, .bool wr, .bool x, .int .i64 s] 47)).alloc (.cells #[.int .i64 k', .int .u64 (a' : Nat), .bool r', .bool wr', .bool x', .int .i64 s'] 47) = W at *
  rw [hS]
  refine wp_region_inv (UnlS w st lv S0 S L k a r wr x s k' a' r' wr' x' s' mk ma mr mw mx ms nk na nr nw nx ns) (by kernel_rfl) (by kernel_rfl) ?_ ?_ ?_
  · exact ⟨_, _, _, _, _, _, _, _, _, _, rfl, holds_drew hH, by unfold EightVals; simp, by unfold TwoNew; simp⟩
  · intro j o ho l b X hl hn hmet hS
    have hj : j < 12 := by
      have := (Array.getElem?_eq_some_iff.1 ho).1
      exact this
    obtain rfl | rfl | rfl | rfl | rfl | rfl | rfl | rfl | rfl | rfl | rfl | rfl : j = 0 ∨ j = 1 ∨ j = 2 ∨ j = 3 ∨ j = 4 ∨ j = 5 ∨ j = 6 ∨ j = 7 ∨ j = 8 ∨ j = 9 ∨ j = 10 ∨ j = 11 := by omega
    · obtain rfl := Option.some.inj ho
      obtain ⟨v11, v12, v0, v1, v2, v3, v4, v5, v6, v7, rfl, hH, hV, hA⟩ := hS
      obtain ⟨s0, s1, s2, _⟩ := id hH
      obtain ⟨k1, f1, z1⟩ := of_block s1
      obtain ⟨k2, f2, z2⟩ := of_block s2
      go_wp2
      exact ⟨_, _, _, _, _, _, _, _, _, _, rfl, hH, eightVals_0 hV, twoNew_set 0 (by decide) hA (old_refl _)⟩
    · obtain rfl := Option.some.inj ho
      obtain ⟨v11, v12, v0, v1, v2, v3, v4, v5, v6, v7, rfl, hH, hV, hA⟩ := hS
      obtain ⟨s0, s1, s2, _⟩ := id hH
      obtain ⟨k1, f1, z1⟩ := of_block s1
      obtain ⟨k2, f2, z2⟩ := of_block s2
      go_wp2
      exact ⟨_, _, _, _, _, _, _, _, _, _, rfl, hH, eightVals_1 hV, twoNew_set 1 (by decide) hA (old_refl _)⟩
    · obtain rfl := Option.some.inj ho
      obtain ⟨v11, v12, v0, v1, v2, v3, v4, v5, v6, v7, rfl, hH, hV, hA⟩ := hS
      obtain ⟨s0, s1, s2, _⟩ := id hH
      obtain ⟨k1, f1, z1⟩ := of_block s1
      obtain ⟨k2, f2, z2⟩ := of_block s2
      go_wp2
      exact ⟨_, _, _, _, _, _, _, _, _, _, rfl, hH, eightVals_2 hV, twoNew_set 2 (by decide) hA (old_refl _)⟩
    · obtain rfl := Option.some.inj ho
      obtain ⟨v11, v12, v0, v1, v2, v3, v4, v5, v6, v7, rfl, hH, hV, hA⟩ := hS
      obtain ⟨s0, s1, s2, _⟩ := id hH
      obtain ⟨k1, f1, z1⟩ := of_block s1
      obtain ⟨k2, f2, z2⟩ := of_block s2
      have p0 : l.getD 0 false = true := hmet _ rfl ⟨0, .data⟩ (by simp) rfl
      obtain rfl := (hV.1) p0
      have p1 : l.getD 1 false = true := hmet _ rfl ⟨1, .data⟩ (by simp) rfl
      obtain rfl := (hV.2.1) p1
      have p2 : l.getD 2 false = true := hmet _ rfl ⟨2, .data⟩ (by simp) rfl
      obtain rfl := (hV.2.2.1) p2
      go_wp2_with ((go_at_call 28); (with_reducible refine (hnear _).mono ?_); rintro e w9 ⟨rfl, hb9⟩)
      exact ⟨_, _, _, _, _, _, _, _, _, _, rfl, holds_old hH hb9, eightVals_3 hV, twoNew_set 3 (by decide) hA hb9⟩
    · obtain rfl := Option.some.inj ho
      obtain ⟨v11, v12, v0, v1, v2, v3, v4, v5, v6, v7, rfl, hH, hV, hA⟩ := hS
      obtain ⟨s0, s1, s2, _⟩ := id hH
      obtain ⟨k1, f1, z1⟩ := of_block s1
      obtain ⟨k2, f2, z2⟩ := of_block s2
      go_wp2
      exact ⟨_, _, _, _, _, _, _, _, _, _, rfl, hH, eightVals_4 hV, twoNew_set 4 (by decide) hA (old_refl _)⟩
    · obtain rfl := Option.some.inj ho
      obtain ⟨v11, v12, v0, v1, v2, v3, v4, v5, v6, v7, rfl, hH, hV, hA⟩ := hS
      obtain ⟨s0, s1, s2, _⟩ := id hH
      obtain ⟨k1, f1, z1⟩ := of_block s1
      obtain ⟨k2, f2, z2⟩ := of_block s2
      go_wp2
      exact ⟨_, _, _, _, _, _, _, _, _, _, rfl, hH, eightVals_5 hV, twoNew_set 5 (by decide) hA (old_refl _)⟩
    · obtain rfl := Option.some.inj ho
      obtain ⟨v11, v12, v0, v1, v2, v3, v4, v5, v6, v7, rfl, hH, hV, hA⟩ := hS
      obtain ⟨s0, s1, s2, _⟩ := id hH
      obtain ⟨k1, f1, z1⟩ := of_block s1
      obtain ⟨k2, f2, z2⟩ := of_block s2
      go_wp2
      exact ⟨_, _, _, _, _, _, _, _, _, _, rfl, hH, eightVals_6 hV, twoNew_set 6 (by decide) hA (old_refl _)⟩
    · obtain rfl := Option.some.inj ho
      obtain ⟨v11, v12, v0, v1, v2, v3, v4, v5, v6, v7, rfl, hH, hV, hA⟩ := hS
      obtain ⟨s0, s1, s2, _⟩ := id hH
      obtain ⟨k1, f1, z1⟩ := of_block s1
      obtain ⟨k2, f2, z2⟩ := of_block s2
      have p4 : l.getD 4 false = true := hmet _ rfl ⟨4, .data⟩ (by simp) rfl
      obtain rfl := (hV.2.2.2.2.1) p4
      have p5 : l.getD 5 false = true := hmet _ rfl ⟨5, .data⟩ (by simp) rfl
      obtain rfl := (hV.2.2.2.2.2.1) p5
      have p6 : l.getD 6 false = true := hmet _ rfl ⟨6, .data⟩ (by simp) rfl
      obtain rfl := (hV.2.2.2.2.2.2.1) p6
      go_wp2_with ((go_at_call 28); (with_reducible refine (hnear' _).mono ?_); rintro e w9 ⟨rfl, hb9⟩)
      exact ⟨_, _, _, _, _, _, _, _, _, _, rfl, holds_old hH hb9, eightVals_7 hV, twoNew_set 7 (by decide) hA hb9⟩
    · obtain rfl := Option.some.inj ho
      obtain ⟨v11, v12, v0, v1, v2, v3, v4, v5, v6, v7, rfl, hH, hV, hA⟩ := hS
      obtain ⟨s0, s1, s2, _⟩ := id hH
      obtain ⟨k1, f1, z1⟩ := of_block s1
      obtain ⟨k2, f2, z2⟩ := of_block s2
      go_wp2
      exact ⟨_, _, _, _, _, _, _, _, _, _, rfl, holds_old hH (old_alloc (old_refl _) _), eightVals_set 8 (by decide) hV, twoNew_8 hl hn z1 hA⟩
    · obtain rfl := Option.some.inj ho
      obtain ⟨v11, v12, v0, v1, v2, v3, v4, v5, v6, v7, rfl, hH, hV, hA⟩ := hS
      obtain ⟨s0, s1, s2, _⟩ := id hH
      obtain ⟨k1, f1, z1⟩ := of_block s1
      obtain ⟨k2, f2, z2⟩ := of_block s2
      go_wp2
      exact ⟨_, _, _, _, _, _, _, _, _, _, rfl, holds_old hH (old_alloc (old_refl _) _), eightVals_set 9 (by decide) hV, twoNew_9 hl hn z1 hA⟩
    · obtain rfl := Option.some.inj ho
      obtain ⟨v11, v12, v0, v1, v2, v3, v4, v5, v6, v7, rfl, hH, hV, hA⟩ := hS
      obtain ⟨s0, s1, s2, _⟩ := id hH
      obtain ⟨k1, f1, z1⟩ := of_block s1
      obtain ⟨k2, f2, z2⟩ := of_block s2
      have pv : l.getD 3 false = true := hmet _ rfl ⟨3, .data⟩ (by simp) rfl
      have pa : l.getD 8 false = true := hmet _ rfl ⟨8, .data⟩ (by simp) rfl
      obtain rfl := (hV.2.2.2.1) pv
      obtain ⟨p, rfl, hp1, hp2⟩ := hA.1 pa
      rw [hn] at hp2
      obtain ⟨kp, fp, zp⟩ := of_block hp2
      go_wp2
      rw [six_set hp2 rfl]
      exact ⟨_, _, _, _, _, _, _, _, _, _, rfl, holds_put2 _ hH hp1, eightVals_set 10 (by decide) hV, twoNew_10 hl pa rfl hA⟩
    · obtain rfl := Option.some.inj ho
      obtain ⟨v11, v12, v0, v1, v2, v3, v4, v5, v6, v7, rfl, hH, hV, hA⟩ := hS
      obtain ⟨s0, s1, s2, _⟩ := id hH
      obtain ⟨k1, f1, z1⟩ := of_block s1
      obtain ⟨k2, f2, z2⟩ := of_block s2
      have pv : l.getD 7 false = true := hmet _ rfl ⟨7, .data⟩ (by simp) rfl
      have pa : l.getD 9 false = true := hmet _ rfl ⟨9, .data⟩ (by simp) rfl
      obtain rfl := (hV.2.2.2.2.2.2.2) pv
      obtain ⟨p, rfl, hp1, hp2⟩ := hA.2.1 pa
      rw [hn] at hp2
      obtain ⟨kp, fp, zp⟩ := of_block hp2
      go_wp2
      rw [six_set hp2 rfl]
      exact ⟨_, _, _, _, _, _, _, _, _, _, rfl, holds_put2 _ hH hp1, eightVals_set 11 (by decide) hV, twoNew_11 hl pa rfl hA⟩
  · intro l b X1 hl hall hS
    obtain ⟨v11, v12, v0, v1, v2, v3, v4, v5, v6, v7, rfl, hH, hV, hA⟩ := hS
    obtain ⟨p, rfl, hp1, hp2⟩ := hA.1 (hall 8 (by decide))
    obtain ⟨q, rfl, hq1, hq2⟩ := hA.2.1 (hall 9 (by decide))
    rw [hall 10 (by decide), cond_true] at hp2
    rw [hall 11 (by decide), cond_true] at hq2
    have hH : Holds w [(q, #[.int .i64 nk, .int .u64 (na : Nat), .bool nr, .bool nw, .bool nx, .int .i64 (ns : Nat)], 47), (p, #[.int .i64 mk, .int .u64 (ma : Nat), .bool mr, .bool mw, .bool mx, .int .i64 (ms : Nat)], 47)] X1 := ⟨hH.1, hq2, hp2, trivial⟩
    clear hV hA hp2 hq2 hall
    obtain ⟨s0, s1, s2, _⟩ := id hH
    obtain ⟨k1, f1, z1⟩ := of_block s1
    obtain ⟨k2, f2, z2⟩ := of_block s2
    go_wp2_with (first | (go_at_call 31; (with_reducible refine (descTold_calls _).mono ?_); rintro e w9 ⟨rfl, hb9⟩; have hH := holds_old hH hb9; obtain ⟨_, s1, s2, _⟩ := id hH; obtain ⟨k1, f1, z1⟩ := of_block s1; obtain ⟨k2, f2, z2⟩ := of_block s2) | (go_at_call 29; (with_reducible refine (e1 _).mono ?_); rintro e w9 ⟨rfl, hb9⟩; have hH := holds_old hH hb9; obtain ⟨_, s1, s2, _⟩ := id hH; obtain ⟨k1, f1, z1⟩ := of_block s1; obtain ⟨k2, f2, z2⟩ := of_block s2) | (go_at_call 29; (with_reducible refine (e2 _).mono ?_); rintro e w9 ⟨rfl, hb9⟩; have hH := holds_old hH hb9; obtain ⟨_, s1, s2, _⟩ := id hH; obtain ⟨k1, f1, z1⟩ := of_block s1; obtain ⟨k2, f2, z2⟩ := of_block s2))
    go_ret
    exact ⟨rfl, hH.1⟩

end Go.Proofs.Ytajilhckhdohnaa
