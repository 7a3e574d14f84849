/- Texts on the way to the statement FramesBlocks, several in one file: each part says what it is. -/
import Derived.Test.YtnmccihgiphmjaaFBA
import Derived.Laws.Rows
import Derived.Laws.Tables
import Derived.Laws.Bits64b
import Derived.Deep.CutBlock
namespace Go.Proofs.Ytnmccihgiphmjaa
set_option linter.unusedVariables false
set_option linter.unusedSimpArgs false
open Go.RowKit
section
variable {P : Program} {ops : Array Oper} {S : World → Prop}
/-- The end of one operation. -/
def Fin (S : World → Prop) (a' : Act) (e : Exit) (a'' : Act) (w' : World) : Prop := e = .normal ∧ a'' = a' ∧ S w'
/-- This one world. -/
def Is (W w : World) : Prop := w = W
/-- What comes behind the last operation. -/
def Later (S : World → Prop) (Q : Exit → Act → World → Prop) (a : Act) : Prop := ∀ w, S w → Q .normal a w
/-- In every world of S this operation comes to the frame a', and the world behind it is one of S. -/
def Gives (P : Program) (ops : Array Oper) (S : World → Prop) (o : Oper) (a a' : Act) : Prop :=
  ∀ w, S w → wpList P ops (Fin S a') [o] a w
/-- The operations one by one, in the order of the text. -/
def Walked (P : Program) (ops : Array Oper) (S : World → Prop) (Q : Act → Prop) : List Oper → Act → Prop
  | [], a => Q a
  | o :: r, a => ∃ a', Gives P ops S o a a' ∧ a'.defers = a.defers ∧ Walked P ops S Q r a'
/-- Two frames agree on what an operation looks at. -/
def Agree (ops : Array Oper) (o : Oper) (a b : Act) : Prop := b.tmps.size = a.tmps.size ∧ ∀ t, t ∈ o.looksAt ops → b.tmps[t]? = a.tmps[t]?
theorem agree_eval {o : Oper} {a b : Act} (h : Agree ops o a b) (hs : ∀ cs c, o.op ≠ .select cs c) : execOp b.eval o = execOp a.eval o := by
  refine execOp_congr o hs fun x hx => ?_
  cases x with
  | tmp t =>
    have ht : t ∈ o.looksAt ops := List.mem_append_left _ (List.mem_filterMap.2 ⟨.tmp t, by simpa using hx, rfl⟩)
    have := h.2 t ht
    simp [Act.eval, this]
  | _ => rfl
theorem agree_wanted {o : Oper} {a b : Act} (h : Agree ops o a b) : Region.wanted o (yielded ops b.tmps) = Region.wanted o (yielded ops a.tmps) := by
  unfold Region.wanted
  cases hg : o.guard with
  | none => rfl
  | some gw =>
    obtain ⟨g, want⟩ := gw
    have hy : yielded ops b.tmps g = yielded ops a.tmps g := by
      unfold yielded
      cases ht : (ops[g]?).bind (·.dst) with
      | none => rfl
      | some t =>
        have := h.2 t (by simp [Oper.looksAt, hg, ht])
        simp [this]
    simp only [hy]
theorem put_same {a b : Act} {dst : Option Tmp} {v u : Value} (hsz : b.tmps.size = a.tmps.size) (h : a.put dst v = a.put dst u) : b.put dst v = b.put dst u := by
  cases dst with
  | none => rfl
  | some d =>
    by_cases hd : d < a.tmps.size
    · have h1 := congrArg (fun x : Act => x.tmps[d]?) h
      simp [Act.put, hd] at h1
      rw [h1]
    · have hd' : ¬ d < b.tmps.size := by rw [hsz]; exact hd
      simp [Act.put, Array.setIfInBounds, hd']
/-- What an operation gives at one frame it gives at every frame that agrees on what it looks at. -/
theorem gives_val {o : Oper} {a a' : Act} (h : Gives P ops S o a a') (hd : a'.defers = a.defers) (hs : ∀ cs c, o.op ≠ .select cs c) {w0 : World} (h0 : S w0) :
    ∃ v, a' = a.put o.dst v ∧ ∀ (b : Act) (w : World) (K : Act → World → Prop) (Q : Exit → Act → World → Prop), Agree ops o a b → S w → (∀ w', S w' → K (b.put o.dst v) w') →
      (if Region.wanted o (yielded ops b.tmps) then o.wp P b w K Q ∨ (o.asks P b w ∧ LetsOut Q) else K (b.put o.dst undef) w) := by
  by_cases hw : Region.wanted o (yielded ops a.tmps) = true
  · -- what it comes to in a world of S
    have key : ∀ w, S w → o.wp P a w (fun a'' w' => a'' = a' ∧ S w') (fun _ _ _ => False) := by
      intro w hS
      have h1 := h w hS
      unfold wpList at h1
      rw [if_pos hw] at h1
      rcases h1 with h1 | ⟨_, a1, w1, h1, _⟩
      · unfold Oper.wp at h1 ⊢
        generalize (execOp a.eval o).run P w = r at h1 ⊢
        cases r with
        | ok n w' =>
          cases n with
          | value v => exact h1.2
          | skip => exact h1.2
          | defer d => exact h1.2
          | enter f args =>
            simp only [Oper.upon] at h1 ⊢
            refine Calls.mono h1 fun e w'' he => ?_
            cases e with
            | returned v => exact he.2
            | panicked c => exact absurd he.1 (by simp)
            | outgrown => obtain ⟨_, _, h2, _⟩ := he; exact absurd h2 (by simp)
          | row row args =>
            simp only [Oper.upon] at h1 ⊢
            exact Rows.mono h1 fun v w'' he => he.2
          | _ => exact (h1 : False).elim
        | halt x w' =>
          cases x <;> simp only [Oper.upon] at h1 ⊢ <;> first | exact h1 | exact absurd h1.1 (by simp)
      · exact absurd h1 (by simp)
    have nodefer : ∀ d, ({ a with defers := d :: a.defers } : Act).put o.dst undef ≠ a' := by
      intro d e
      have h1 := congrArg Act.defers e
      rw [hd] at h1
      have h2 : (({ a with defers := d :: a.defers } : Act).put o.dst undef).defers = d :: a.defers := by cases o.dst <;> rfl
      rw [h2] at h1
      have := congrArg List.length h1
      simp at this
    -- the value
    have hv : ∃ v, a' = a.put o.dst v := by
      have k0 := key w0 h0
      unfold Oper.wp at k0
      generalize (execOp a.eval o).run P w0 = r at k0
      cases r with
      | ok n w' =>
        cases n with
        | value v => exact ⟨v, k0.1.symm⟩
        | skip => exact ⟨undef, k0.1.symm⟩
        | defer d => exact absurd k0.1 (nodefer d)
        | enter f args =>
          simp only [Oper.upon] at k0
          obtain ⟨e, w'', fr, hr, _⟩ := k0 []
          cases e with
          | returned v => exact ⟨v, hr.1.symm⟩
          | panicked c => exact hr.elim
          | outgrown => obtain ⟨_, _, h2⟩ := hr; exact h2.elim
        | row row args =>
          simp only [Oper.upon] at k0
          obtain ⟨v, w'', hr, _⟩ := k0 default []
          exact ⟨v, hr.1.symm⟩
        | _ => exact (k0 : False).elim
      | halt x w' => cases x <;> simp only [Oper.upon] at k0
    obtain ⟨v, hv⟩ := hv
    refine ⟨v, hv, fun b w K Q hab hS hK => ?_⟩
    rw [agree_wanted hab, if_pos hw]
    refine .inl ?_
    have k := key w hS
    unfold Oper.wp at k ⊢
    rw [agree_eval hab hs]
    have same : ∀ u, a.put o.dst u = a' → b.put o.dst u = b.put o.dst v := fun u hu => put_same hab.1 (hu.trans hv)
    generalize (execOp a.eval o).run P w = r at k ⊢
    cases r with
    | ok n w' =>
      cases n with
      | value u => show K _ _; rw [same u k.1]; exact hK _ k.2
      | skip => show K _ _; rw [same undef k.1]; exact hK _ k.2
      | defer d => exact absurd k.1 (nodefer d)
      | enter f args =>
        simp only [Oper.upon] at k ⊢
        refine Calls.mono k fun e w'' he => ?_
        cases e with
        | returned u => show K _ _; rw [same u he.1]; exact hK _ he.2
        | panicked c => exact he.elim
        | outgrown => obtain ⟨_, _, h2⟩ := he; exact h2.elim
      | row row args =>
        simp only [Oper.upon] at k ⊢
        refine Rows.mono k fun u w'' he => ?_
        rw [same u he.1]; exact hK _ he.2
      | _ => exact (k : False).elim
    | halt x w' => cases x <;> simp only [Oper.upon] at k
  · have hw' : Region.wanted o (yielded ops a.tmps) = false := by simpa using hw
    refine ⟨undef, ?_, fun b w K Q hab hS hK => ?_⟩
    · have h1 := h w0 h0
      unfold wpList at h1
      rw [if_neg hw] at h1
      exact h1.2.1.symm
    · rw [agree_wanted hab, if_neg hw]
      exact hK w hS
end
/-! What comes ahead of what. -/
theorem inner_bit (acc : Array Nat) (x : Nat) : ∀ (es : List Edge) (s0 : Nat),
    (es.foldl (fun s e => if Region.binds .any e then s ||| 2 ^ e.on ||| acc.getD e.on 0 else s) s0).testBit x = true →
    s0.testBit x = true ∨ ∃ e ∈ es, Region.binds .any e = true ∧ (e.on = x ∨ (acc.getD e.on 0).testBit x = true) := by
  intro es
  induction es with
  | nil => intro s0 h; exact .inl h
  | cons e es ih =>
    intro s0 h
    rw [List.foldl_cons] at h
    rcases ih _ h with h1 | ⟨e', he', hb, hx⟩
    · split at h1
      · rename_i hb
        rw [Nat.testBit_or, Nat.testBit_or, Bool.or_eq_true, Bool.or_eq_true] at h1
        rcases h1 with (h1 | h1) | h1
        · exact .inl h1
        · rw [Nat.testBit_two_pow] at h1
          exact .inr ⟨e, List.mem_cons_self, hb, .inl (of_decide_eq_true h1)⟩
        · exact .inr ⟨e, List.mem_cons_self, hb, .inr h1⟩
      · exact .inl h1
    · exact .inr ⟨e', List.mem_cons_of_mem _ he', hb, hx⟩
/-- One more mask. -/
def maskStep (acc : Array Nat) (o : Oper) : Array Nat :=
  acc.push (o.after.foldl (fun s e => if Region.binds .any e then s ||| 2 ^ e.on ||| acc.getD e.on 0 else s) 0)
theorem masks_eq (ops : Array Oper) : Region.before ops = ops.toList.foldl maskStep #[] := by
  unfold Region.before
  rw [← Array.foldl_toList]
  rfl
theorem masks_fold : ∀ (l : List Oper) (acc : Array Nat),
    (∀ i, i < acc.size → (l.foldl maskStep acc).getD i 0 = acc.getD i 0) ∧ (l.foldl maskStep acc).size = acc.size + l.length ∧
    ∀ j o, l[j]? = some o → ∃ acc' : Array Nat, acc'.size = acc.size + j ∧ (∀ i, i < acc'.size → acc'.getD i 0 = (l.foldl maskStep acc).getD i 0) ∧
      (l.foldl maskStep acc).getD (acc.size + j) 0 = o.after.foldl (fun s e => if Region.binds .any e then s ||| 2 ^ e.on ||| acc'.getD e.on 0 else s) 0 := by
  intro l
  induction l with
  | nil => intro acc; exact ⟨fun _ _ => rfl, by simp, fun j o h => by simp at h⟩
  | cons o l ih =>
    intro acc
    obtain ⟨h1, h2, h3⟩ := ih (maskStep acc o)
    have hsz : (maskStep acc o).size = acc.size + 1 := by simp [maskStep]
    have hold : ∀ i, i < acc.size → (maskStep acc o).getD i 0 = acc.getD i 0 := fun i hi => by
      simp [maskStep, Array.getElem?_push, Nat.ne_of_lt hi]
    have hnew : (maskStep acc o).getD acc.size 0 = o.after.foldl (fun s e => if Region.binds .any e then s ||| 2 ^ e.on ||| acc.getD e.on 0 else s) 0 := by
      simp [maskStep]
    rw [List.foldl_cons]
    refine ⟨fun i hi => (h1 i (by omega)).trans (hold i hi), by rw [h2, hsz, List.length_cons]; omega, fun j o' hj => ?_⟩
    cases j with
    | zero =>
      simp at hj
      subst hj
      exact ⟨acc, rfl, fun i hi => ((h1 i (by omega)).trans (hold i hi)).symm, by rw [Nat.add_zero, h1 _ (by omega), hnew]⟩
    | succ j =>
      rw [List.getElem?_cons_succ] at hj
      obtain ⟨acc', a1, a2, a3⟩ := h3 j o' hj
      exact ⟨acc', by omega, a2, by rw [show acc.size + (j + 1) = (maskStep acc o).size + j by omega]; exact a3⟩
theorem mask_bit {ops : Array Oper} {x y : Nat} {o : Oper} (ho : ops[y]? = some o) (h : ((Region.before ops).getD y 0).testBit x = true) :
    ∃ e ∈ o.after, Region.binds .any e = true ∧ (e.on = x ∨ (e.on < y ∧ ((Region.before ops).getD e.on 0).testBit x = true)) := by
  obtain ⟨_, _, h3⟩ := masks_fold ops.toList #[]
  obtain ⟨acc', a1, a2, a3⟩ := h3 y o (by simpa using ho)
  rw [masks_eq] at h ⊢
  simp only [Array.size_empty, Nat.zero_add] at a1 a3
  rw [a3, ← Array.foldl_toList] at h
  rcases inner_bit acc' x _ _ h with h1 | ⟨e, he, hb, hx⟩
  · simp at h1
  · refine ⟨e, by simpa using he, hb, ?_⟩
    rcases hx with hx | hx
    · exact .inl hx
    · rcases Nat.lt_or_ge e.on acc'.size with hlt | hge
      · exact .inr ⟨by omega, by rw [← a2 _ hlt]; exact hx⟩
      · rw [show acc'.getD e.on 0 = 0 by simp [Array.getElem?_eq_none hge]] at hx
        simp at hx
/-- All that an operation waits for has come up. -/
def AllMet (ops : Array Oper) (listed : Array Bool) (y : Nat) : Prop := ∀ o, ops[y]? = some o → ∀ e ∈ o.after, Region.binds .any e = true → listed.getD e.on false = true
theorem met_bit {ops : Array Oper} {listed : Array Bool} (hc : ∀ y, listed.getD y false = true → AllMet ops listed y) (x : Nat) : ∀ (n y : Nat), y < n → y < ops.size → AllMet ops listed y →
    ((Region.before ops).getD y 0).testBit x = true → listed.getD x false = true := by
  intro n
  induction n with
  | zero => intro y h; omega
  | succ n ih =>
    intro y hy hs hm hb
    obtain ⟨e, he, hbind, hx⟩ := mask_bit (Array.getElem?_eq_getElem hs) hb
    have hl := hm _ (Array.getElem?_eq_getElem hs) e he hbind
    rcases hx with rfl | ⟨hlt, hx⟩
    · exact hl
    · exact ih e.on (by omega) (by omega) (hc _ hl) hx
/-- May the operations be walked in the order of the text? Each slot is written once, and who reads it comes ahead of or behind its writer in every order. -/
def seqOk (ops : Array Oper) : Bool :=
  (List.range ops.size).all fun j => match ops[j]? with
    | none => true
    | some o => (match o.op with | .select .. => false | _ => true) && o.after.all (fun e => !Region.binds .any e || decide (e.on < j)) &&
      (List.range ops.size).all fun i => i == j || match (ops[i]?).bind (·.dst) with
        | none => true
        | some t => o.dst != some t && (!(o.looksAt ops).contains t || (if i < j then ((Region.before ops).getD j 0).testBit i else ((Region.before ops).getD i 0).testBit j))
theorem seqOk_spec {ops : Array Oper} (h : seqOk ops = true) {j : Nat} {o : Oper} (ho : ops[j]? = some o) :
    (∀ cs c, o.op ≠ .select cs c) ∧ (∀ e ∈ o.after, Region.binds .any e = true → e.on < j) ∧
    ∀ i o', ops[i]? = some o' → i ≠ j → ∀ t, o'.dst = some t → o.dst ≠ some t ∧
      (t ∈ o.looksAt ops → (i < j ∧ ((Region.before ops).getD j 0).testBit i = true) ∨ (j < i ∧ ((Region.before ops).getD i 0).testBit j = true)) := by
  have hj : j < ops.size := (Array.getElem?_eq_some_iff.1 ho).1
  have h1 := (List.all_eq_true.1 h) j (List.mem_range.2 hj)
  simp only [ho, Bool.and_eq_true] at h1
  obtain ⟨⟨hs, he⟩, hi⟩ := h1
  refine ⟨fun cs c e => by rw [e] at hs; simp at hs, fun e hm hb => ?_, fun i o' ho' hne t ht => ?_⟩
  · have := (Array.all_eq_true_iff_forall_mem.1 he) e hm
    simpa [hb] using this
  · have hi' : i < ops.size := (Array.getElem?_eq_some_iff.1 ho').1
    have h2 := (List.all_eq_true.1 hi) i (List.mem_range.2 hi')
    simp only [ho', Option.bind_some, ht, Bool.or_eq_true, beq_iff_eq, hne, false_or, Bool.and_eq_true, bne_iff_ne, ne_eq] at h2
    refine ⟨h2.1, fun hm => ?_⟩
    rcases h2.2 with h3 | h3
    · simp [hm] at h3
    · split at h3
      · exact .inl ⟨by assumption, h3⟩
      · exact .inr ⟨by omega, h3⟩
theorem count_lt {p q : Nat → Bool} (h : ∀ k, q k = true → p k = true) {j : Nat} (hp : p j = true) (hq : q j = false) : ∀ {l : List Nat}, j ∈ l → (l.filter q).length < (l.filter p).length := by
  have hle : ∀ l : List Nat, (l.filter q).length ≤ (l.filter p).length := by
    intro l
    induction l with
    | nil => simp
    | cons x l ih =>
      by_cases hx : q x = true
      · simp [hx, h x hx]; exact ih
      · by_cases hy : p x = true
        · simp [hx, hy]; omega
        · simp [hx, hy]; exact ih
  intro l
  induction l with
  | nil => intro hj; simp at hj
  | cons x l ih =>
    intro hj
    by_cases hxj : x = j
    · subst hxj
      have := hle l
      simp [hp, hq]; omega
    · have hj' : j ∈ l := by simpa [Ne.symm hxj] using hj
      have := ih hj'
      by_cases hx : q x = true
      · simp [hx, h x hx]; exact this
      · by_cases hy : p x = true
        · simp [hx, hy]; omega
        · simp [hx, hy]; exact this
section
variable {P : Program} {ops : Array Oper} {S : World → Prop} {Q : Exit → Act → World → Prop}
theorem walked_chain {Qf : Act → Prop} : ∀ (l : List Oper) (a : Act), Walked P ops S Qf l a →
    ∃ A : Nat → Act, A 0 = a ∧ (∀ k o, l[k]? = some o → Gives P ops S o (A k) (A (k + 1)) ∧ (A (k + 1)).defers = (A k).defers) ∧ Qf (A l.length) := by
  intro l
  induction l with
  | nil => intro a h; exact ⟨fun _ => a, rfl, fun k o hk => by simp at hk, h⟩
  | cons o l ih =>
    intro a h
    obtain ⟨a', hg, hd, hr⟩ := h
    obtain ⟨A, h0, h1, h2⟩ := ih a' hr
    refine ⟨fun k => match k with | 0 => a | k + 1 => A k, rfl, fun k o' hk => ?_, h2⟩
    cases k with
    | zero =>
      simp at hk
      subst hk
      exact ⟨show Gives P ops S o a (A 0) by rw [h0]; exact hg, show (A 0).defers = a.defers by rw [h0]; exact hd⟩
    | succ k => exact h1 k o' (by simpa using hk)
/-- The frame while the operations come up in some order: what has come up holds its value, all else is as it was. -/
structure Midway (ops : Array Oper) (a z : Act) (listed : Array Bool) (b : Act) : Prop where
  size : b.tmps.size = a.tmps.size
  defers : b.defers = a.defers
  len : listed.size = ops.size
  closed : ∀ y, listed.getD y false = true → AllMet ops listed y
  done : ∀ k o t, ops[k]? = some o → listed.getD k false = true → o.dst = some t → b.tmps[t]? = z.tmps[t]?
  left : ∀ t, (∀ k o, ops[k]? = some o → listed.getD k false = true → o.dst ≠ some t) → b.tmps[t]? = a.tmps[t]?
theorem act_ext {a b : Act} (h : a.tmps = b.tmps) (hd : a.defers = b.defers) : a = b := by
  cases a; cases b; simp_all
theorem put_size (a : Act) (d : Option Tmp) (v : Value) : (a.put d v).tmps.size = a.tmps.size := by cases d <;> simp [Act.put]
theorem put_defs (a : Act) (d : Option Tmp) (v : Value) : (a.put d v).defers = a.defers := by cases d <;> simp [Act.put]
theorem put_ne {a : Act} {d : Option Tmp} {v : Value} {t : Tmp} (h : d ≠ some t) : (a.put d v).tmps[t]? = a.tmps[t]? := by
  cases d with
  | none => rfl
  | some d => simp [Act.put, Array.getElem?_setIfInBounds_ne (show d ≠ t from fun e => h (by rw [e]))]
theorem put_at {a b : Act} {v : Value} {t : Tmp} (h : a.tmps.size = b.tmps.size) : (a.put (some t) v).tmps[t]? = (b.put (some t) v).tmps[t]? := by
  simp [Act.put, Array.getElem?_setIfInBounds, h]
/-- **A statement whose order is open: one walk, in the order of the text, is enough.** -/
theorem wp_region_walked {id : Nat} {a : Act} {w : World} (hm : P.follows .mixedOrders = true) (hok : seqOk ops = true) (hS : S w.drew)
    (h : Walked P ops S (Later S Q) ops.toList a) : (Code.region id ops true).wp P Q a w := by
  obtain ⟨A, hA0, hA, hQ⟩ := walked_chain _ _ h
  have hA' : ∀ k o, ops[k]? = some o → ∃ v, A (k + 1) = (A k).put o.dst v ∧ ∀ (b : Act) (w : World) (K : Act → World → Prop) (Q : Exit → Act → World → Prop), Agree ops o (A k) b → S w →
      (∀ w', S w' → K (b.put o.dst v) w') → (if Region.wanted o (yielded ops b.tmps) then o.wp P b w K Q ∨ (o.asks P b w ∧ LetsOut Q) else K (b.put o.dst undef) w) := fun k o ho => by
    obtain ⟨g, d⟩ := hA k o (by simpa using ho)
    exact gives_val g d (seqOk_spec hok ho).1 hS
  have hlen : ops.toList.length = ops.size := by simp
  rw [hlen] at hQ
  have asz : ∀ k, k ≤ ops.size → (A k).tmps.size = a.tmps.size ∧ (A k).defers = a.defers := by
    intro k
    induction k with
    | zero => intro _; rw [hA0]; exact ⟨rfl, rfl⟩
    | succ k ih =>
      intro hk
      obtain ⟨v, hv, _⟩ := hA' k _ (Array.getElem?_eq_getElem (show k < ops.size by omega))
      obtain ⟨i1, i2⟩ := ih (by omega)
      rw [hv, put_size, put_defs]; exact ⟨i1, i2⟩
  -- between k and m nothing writes t
  have far : ∀ k t m, k ≤ m → m ≤ ops.size → (∀ i o, k ≤ i → i < m → ops[i]? = some o → o.dst ≠ some t) → (A m).tmps[t]? = (A k).tmps[t]? := by
    intro k t m
    induction m with
    | zero => intro h1 _ _; rw [show k = 0 by omega]
    | succ m ih =>
      intro h1 h2 hno
      by_cases hkm : k = m + 1
      · rw [hkm]
      · obtain ⟨v, hv, _⟩ := hA' m _ (Array.getElem?_eq_getElem (show m < ops.size by omega))
        rw [hv, put_ne (hno m _ (by omega) (by omega) (Array.getElem?_eq_getElem (show m < ops.size by omega)))]
        exact ih (by omega) (by omega) (fun i o hi hi' ho => hno i o hi (by omega) ho)
  have unlike : ∀ (i j : Nat) (oi oj : Oper) (t : Tmp), ops[i]? = some oi → ops[j]? = some oj → oi.dst = some t → oj.dst = some t → i = j := by
    intro i j oi oj t hi hj ti tj
    by_cases e : i = j
    · exact e
    · exact absurd tj (((seqOk_spec hok hj).2.2 i oi hi e t ti).1)
  have lt_of : ∀ (listed : Array Bool) k, listed.getD k false = true → listed.size = ops.size → k < ops.size := by
    intro listed k hk hl
    rcases Nat.lt_or_ge k listed.size with h' | h'
    · omega
    · simp [Array.getElem?_eq_none h'] at hk
  -- what comes up next gives what it gives in the order of the text
  have main : ∀ (fuel : Nat) (listed : Array Bool) (b : Act) (w : World), ((List.range ops.size).filter (fun k => !listed.getD k true)).length ≤ fuel →
      Midway ops a (A ops.size) listed b → S w → wpAny P .any ops Q fuel listed b w := by
    intro fuel
    induction fuel with
    | zero =>
      intro listed b w hf hM hw
      have hall : ∀ k, k < ops.size → listed.getD k false = true := by
        intro k hk
        have hnil : (List.range ops.size).filter (fun k => !listed.getD k true) = [] := List.length_eq_zero_iff.1 (by omega)
        have := (List.filter_eq_nil_iff.1 hnil) k (List.mem_range.2 hk)
        have hkl : k < listed.size := by rw [hM.len]; exact hk
        simpa [hkl] using this
      have hfin : b = A ops.size := by
        refine act_ext (Array.ext_getElem? fun t => ?_) (by rw [hM.defers, (asz _ (Nat.le_refl _)).2])
        by_cases hx : ∃ (k : Nat) (o : Oper), ops[k]? = some o ∧ o.dst = some t
        · obtain ⟨k, o, ho, ht⟩ := hx
          exact hM.done k o t ho (hall k (Array.getElem?_eq_some_iff.1 ho).1) ht
        · rw [hM.left t (fun k o ho _ ht => hx ⟨k, o, ho, ht⟩), far 0 t ops.size (by omega) (Nat.le_refl _) (fun i o _ _ ho ht => hx ⟨i, o, ho, ht⟩), hA0]
      refine ⟨?_, by rw [hfin]; exact hQ w hw⟩
      refine List.eq_nil_iff_forall_not_mem.2 fun j hj => ?_
      obtain ⟨hjun, o, ho, _⟩ := mem_ready.1 hj
      have hjl : j < listed.size := by rw [hM.len]; exact (Array.getElem?_eq_some_iff.1 ho).1
      have := hall j (Array.getElem?_eq_some_iff.1 ho).1
      simp [hjl] at hjun this
      rw [this] at hjun; cases hjun
    | succ fuel ih =>
      intro listed b w hf hM hw
      refine ⟨fun hnil => ?_, fun j hj => ?_⟩
      · -- nothing is left: all have come up
        have hall : ∀ n k, k < n → k < ops.size → listed.getD k false = true := by
          intro n
          induction n with
          | zero => intro k hk; omega
          | succ n ihn =>
            intro k hk hs
            by_cases hl : listed.getD k false = true
            · exact hl
            · exfalso
              have hkl : k < listed.size := by rw [hM.len]; exact hs
              have hmem : k ∈ Region.ready .any ops listed := mem_ready.2 ⟨by simpa [hkl] using hl, _, Array.getElem?_eq_getElem hs, fun e he hb => by
                have hlt := (seqOk_spec hok (Array.getElem?_eq_getElem hs)).2.1 e he hb
                exact ihn e.on (by omega) (by omega)⟩
              rw [hnil] at hmem
              cases hmem
        have hfin : b = A ops.size := by
          refine act_ext (Array.ext_getElem? fun t => ?_) (by rw [hM.defers, (asz _ (Nat.le_refl _)).2])
          by_cases hx : ∃ (k : Nat) (o : Oper), ops[k]? = some o ∧ o.dst = some t
          · obtain ⟨k, o, ho, ht⟩ := hx
            exact hM.done k o t ho (hall _ k (Nat.lt_succ_self k) (Array.getElem?_eq_some_iff.1 ho).1) ht
          · rw [hM.left t (fun k o ho _ ht => hx ⟨k, o, ho, ht⟩), far 0 t ops.size (by omega) (Nat.le_refl _) (fun i o _ _ ho ht => hx ⟨i, o, ho, ht⟩), hA0]
        rw [hfin]; exact hQ w hw
      · obtain ⟨hjun, o, ho, hedges⟩ := mem_ready.1 hj
        have hjs : j < ops.size := (Array.getElem?_eq_some_iff.1 ho).1
        have hjl : j < listed.size := by rw [hM.len]; exact hjs
        have hjun' : listed.getD j false = false := by simpa [hjl] using hjun
        have hmet : AllMet ops listed j := fun o' ho' e he hb => by
          rw [ho] at ho'
          cases ho'
          exact hedges e he hb
        obtain ⟨v, hv, step⟩ := hA' j o ho
        have hag : Agree ops o (A j) b := by
          refine ⟨by rw [hM.size, (asz j (by omega)).1], fun t ht => ?_⟩
          by_cases hx : ∃ (i : Nat) (oi : Oper), ops[i]? = some oi ∧ oi.dst = some t
          · obtain ⟨i, oi, hi, hti⟩ := hx
            by_cases hij : i = j
            · rw [hM.left t (fun k ok hk hlk htk => by
                have : k = i := unlike k i ok oi t hk hi htk hti
                rw [this, hij, hjun'] at hlk
                cases hlk), far 0 t j (by omega) (by omega) (fun k ok _ hk hok' htk => by
                have : k = i := unlike k i ok oi t hok' hi htk hti
                omega), hA0]
            · rcases ((seqOk_spec hok ho).2.2 i oi hi hij t hti).2 ht with ⟨hlt, hbit⟩ | ⟨hlt, hbit⟩
              · have hli := met_bit hM.closed i (j + 1) j (by omega) hjs hmet hbit
                rw [hM.done i oi t hi hli hti]
                exact far j t ops.size (by omega) (Nat.le_refl _) (fun k ok hk _ hok' htk => by
                  have : k = i := unlike k i ok oi t hok' hi htk hti
                  omega)
              · have hun : listed.getD i false ≠ true := fun hli => by
                  have his : i < ops.size := (Array.getElem?_eq_some_iff.1 hi).1
                  have := met_bit hM.closed j (i + 1) i (by omega) his (hM.closed i hli) hbit
                  rw [hjun'] at this
                  cases this
                rw [hM.left t (fun k ok hk hlk htk => by
                  have : k = i := unlike k i ok oi t hk hi htk hti
                  rw [this] at hlk
                  exact hun hlk), far 0 t j (by omega) (by omega) (fun k ok _ hk hok' htk => by
                  have : k = i := unlike k i ok oi t hok' hi htk hti
                  omega), hA0]
          · rw [hM.left t (fun k ok hk _ htk => hx ⟨k, ok, hk, htk⟩), far 0 t j (by omega) (by omega) (fun k ok _ _ hk htk => hx ⟨k, ok, hk, htk⟩), hA0]
        have hM' : Midway ops a (A ops.size) (listed.setIfInBounds j true) (b.put o.dst v) := by
          refine ⟨by rw [put_size, hM.size], by rw [put_defs, hM.defers], by rw [Array.size_setIfInBounds, hM.len], fun y hy => ?_, fun k ok t hk hlk htk => ?_, fun t hno => ?_⟩
          · intro oy hoy e he hb
            by_cases hyj : j = y
            · subst hyj
              exact getD_set_true (hmet oy hoy e he hb)
            · rw [getD_set_ne false hyj] at hy
              exact getD_set_true (hM.closed y hy oy hoy e he hb)
          · by_cases hkj : j = k
            · subst hkj
              rw [ho] at hk
              cases hk
              rw [htk, put_at (b := A j) (by rw [hM.size, (asz j (by omega)).1]), ← htk, ← hv]
              exact (far (j + 1) t ops.size (by omega) (Nat.le_refl _) (fun i oi hi _ hoi hti => by
                have : i = j := unlike i j oi o t hoi ho hti htk
                omega)).symm
            · rw [getD_set_ne false hkj] at hlk
              rw [put_ne (fun e => hkj (unlike j k o ok t ho hk e htk))]
              exact hM.done k ok t hk hlk htk
          · have hjt : o.dst ≠ some t := hno j o ho (by simp [hjl])
            rw [put_ne hjt]
            refine hM.left t (fun k ok hk hlk => hno k ok hk ?_)
            exact getD_set_true hlk
        unfold wpOp
        simp only [ho]
        refine step b w _ Q hag hw (fun w' hw' => ih _ _ w' ?_ hM' hw')
        have := count_lt (p := fun k => !listed.getD k true) (q := fun k => !(listed.setIfInBounds j true).getD k true) (fun k hk => by
          by_cases hkj : j = k
          · subst hkj; simp [hjun]
          · rw [getD_set_ne true hkj] at hk; exact hk) (j := j) (by simp [hjun]) (by simp [hjl]) (List.mem_range.2 hjs)
        omega
  refine wp_region_any hm (main ops.size _ a w.drew ?_ ?_ hS)
  · exact Nat.le_trans (List.length_filter_le _ _) (by simp)
  · refine ⟨rfl, rfl, by simp, fun y hy => ?_, fun k o t ho hk _ => ?_, fun t _ => rfl⟩
    · simp [Array.getElem?_replicate] at hy
      split at hy <;> simp at hy
    · simp [Array.getElem?_replicate] at hk
      split at hk <;> simp at hk
/-! The last operations of a statement, each behind all that stand ahead of it in the text: they come in the order of the text. -/
/-- From number m on each operation waits for all ahead of it. -/
def tailOk (ops : Array Oper) (m : Nat) : Bool := (List.range ops.size).all fun j => decide (j < m) || (List.range j).all fun i => ((Region.before ops).getD j 0).testBit i
theorem tailOk_spec {m : Nat} (h : tailOk ops m = true) {j i : Nat} (hj : j < ops.size) (hm : m ≤ j) (hi : i < j) : ((Region.before ops).getD j 0).testBit i = true := by
  have h1 := (List.all_eq_true.1 h) j (List.mem_range.2 hj)
  rw [Bool.or_eq_true] at h1
  rcases h1 with h1 | h1
  · have := of_decide_eq_true h1; omega
  · exact (List.all_eq_true.1 h1) i (List.mem_range.2 hi)
/-- Just the first k have come up. -/
def Upto (ops : Array Oper) (k : Nat) (listed : Array Bool) : Prop := listed.size = ops.size ∧ ∀ i, i < ops.size → (listed.getD i false = true ↔ i < k)
theorem forced {m : Nat} (hok : seqOk ops = true) (ht : tailOk ops m = true) : ∀ (d k fuel : Nat) (listed : Array Bool) (b : Act) (w : World), ops.size - k = d → d ≤ fuel → m ≤ k → k ≤ ops.size → Upto ops k listed →
    (∀ y, listed.getD y false = true → AllMet ops listed y) → wpList P ops Q (ops.toList.drop k) b w → wpAny P .any ops Q fuel listed b w := by
  intro d
  induction d with
  | zero =>
    intro k fuel listed b w hd hf hm hk hu hc h
    have hke : k = ops.size := by omega
    subst hke
    rw [List.drop_of_length_le (by simp)] at h
    have hnil : Region.ready .any ops listed = [] := by
      refine List.eq_nil_iff_forall_not_mem.2 fun j hj => ?_
      obtain ⟨hjun, o, ho, _⟩ := mem_ready.1 hj
      have hjs : j < ops.size := (Array.getElem?_eq_some_iff.1 ho).1
      have hjl : j < listed.size := by rw [hu.1]; exact hjs
      have := (hu.2 j hjs).2 hjs
      simp [hjl] at hjun this
      rw [this] at hjun; cases hjun
    cases fuel with
    | zero => exact ⟨hnil, h⟩
    | succ f => exact ⟨fun _ => h, fun i hi => by rw [hnil] at hi; cases hi⟩
  | succ d ih =>
    intro k fuel listed b w hd hf hm hk hu hc h
    have hks : k < ops.size := by omega
    have hkl : k < listed.size := by rw [hu.1]; exact hks
    cases fuel with
    | zero => omega
    | succ f =>
      have hkun : listed.getD k false ≠ true := fun e => by have := (hu.2 k hks).1 e; omega
      have hkr : k ∈ Region.ready .any ops listed := mem_ready.2 ⟨by simpa [hkl] using hkun, _, Array.getElem?_eq_getElem hks, fun e he hb => by
        have hlt := (seqOk_spec hok (Array.getElem?_eq_getElem hks)).2.1 e he hb
        exact (hu.2 e.on (by omega)).2 (by omega)⟩
      refine ⟨fun hnil => (by rw [hnil] at hkr; cases hkr), fun j hj => ?_⟩
      obtain ⟨hjun, o, ho, hedges⟩ := mem_ready.1 hj
      have hjs : j < ops.size := (Array.getElem?_eq_some_iff.1 ho).1
      have hjl : j < listed.size := by rw [hu.1]; exact hjs
      have hmet : AllMet ops listed j := fun o' ho' e he hb => by
        rw [ho] at ho'
        cases ho'
        exact hedges e he hb
      have hjk : j = k := by
        have h1 : ¬ j < k := fun hlt => by
          have := (hu.2 j hjs).2 hlt
          simp [hjl] at hjun this
          rw [this] at hjun; cases hjun
        by_cases h2 : k < j
        · have := met_bit hc k (j + 1) j (by omega) hjs hmet (tailOk_spec ht hjs (by omega) h2)
          exact absurd this hkun
        · omega
      subst hjk
      have hdrop : ops.toList.drop j = o :: ops.toList.drop (j + 1) := by
        have hl : j < ops.toList.length := by simpa using hjs
        rw [List.drop_eq_getElem_cons hl]
        congr 1
        have := (Array.getElem?_eq_some_iff.1 ho).2
        simpa using this
      rw [hdrop] at h
      have hu' : Upto ops (j + 1) (listed.setIfInBounds j true) := by
        refine ⟨by rw [Array.size_setIfInBounds, hu.1], fun i hi => ?_⟩
        by_cases hij : j = i
        · subst hij; simp [hjl]
        · rw [getD_set_ne false hij, hu.2 i hi]; omega
      have hc' : ∀ y, (listed.setIfInBounds j true).getD y false = true → AllMet ops (listed.setIfInBounds j true) y := fun y hy => by
        intro oy hoy e he hb
        by_cases hyj : j = y
        · subst hyj; exact getD_set_true (hmet oy hoy e he hb)
        · rw [getD_set_ne false hyj] at hy
          exact getD_set_true (hc y hy oy hoy e he hb)
      unfold wpOp
      simp only [ho]
      unfold wpList at h
      split at h
      · rename_i hw
        rw [if_pos hw]
        exact h.imp (Oper.wp_mono fun a' w' h' => ih (j + 1) f _ a' w' (by omega) (by omega) (by omega) (by omega) hu' hc' h') id
      · rename_i hw
        rw [if_neg hw]
        exact ih (j + 1) f _ _ w (by omega) (by omega) (by omega) (by omega) hu' hc' h
/-- **A statement whose order is open, and which ends in operations that wait for all ahead of them (a store, an append): one walk, in the order of the text, is enough.** -/
theorem wp_region_tail (m : Nat) {id : Nat} {a : Act} {w : World} (hm : P.follows .mixedOrders = true) (hok : seqOk ops = true) (ht : tailOk ops m = true) (hms : m ≤ ops.size) (hS : S w.drew)
    (h : Walked P ops S (fun a' => ∀ w', S w' → wpList P ops Q (ops.toList.drop m) a' w') (ops.toList.take m) a) : (Code.region id ops true).wp P Q a w := by
  obtain ⟨A, hA0, hA, hQ⟩ := walked_chain _ _ h
  have hA' : ∀ k o, k < m → ops[k]? = some o → ∃ v, A (k + 1) = (A k).put o.dst v ∧ ∀ (b : Act) (w : World) (K : Act → World → Prop) (Q : Exit → Act → World → Prop), Agree ops o (A k) b → S w →
      (∀ w', S w' → K (b.put o.dst v) w') → (if Region.wanted o (yielded ops b.tmps) then o.wp P b w K Q ∨ (o.asks P b w ∧ LetsOut Q) else K (b.put o.dst undef) w) := fun k o hk ho => by
    obtain ⟨g, d⟩ := hA k o (by rw [List.getElem?_take, if_pos hk]; simpa using ho)
    exact gives_val g d (seqOk_spec hok ho).1 hS
  have hlen : (ops.toList.take m).length = m := by simp [Nat.min_eq_left hms]
  rw [hlen] at hQ
  have asz : ∀ k, k ≤ m → (A k).tmps.size = a.tmps.size ∧ (A k).defers = a.defers := by
    intro k
    induction k with
    | zero => intro _; rw [hA0]; exact ⟨rfl, rfl⟩
    | succ k ih =>
      intro hk
      obtain ⟨v, hv, _⟩ := hA' k _ (by omega) (Array.getElem?_eq_getElem (show k < ops.size by omega))
      obtain ⟨i1, i2⟩ := ih (by omega)
      rw [hv, put_size, put_defs]; exact ⟨i1, i2⟩
  have far : ∀ k t n, k ≤ n → n ≤ m → (∀ i o, k ≤ i → i < n → ops[i]? = some o → o.dst ≠ some t) → (A n).tmps[t]? = (A k).tmps[t]? := by
    intro k t n
    induction n with
    | zero => intro h1 _ _; rw [show k = 0 by omega]
    | succ n ih =>
      intro h1 h2 hno
      by_cases hkm : k = n + 1
      · rw [hkm]
      · obtain ⟨v, hv, _⟩ := hA' n _ (by omega) (Array.getElem?_eq_getElem (show n < ops.size by omega))
        rw [hv, put_ne (hno n _ (by omega) (by omega) (Array.getElem?_eq_getElem (show n < ops.size by omega)))]
        exact ih (by omega) (by omega) (fun i o hi hi' ho => hno i o hi (by omega) ho)
  have unlike : ∀ (i j : Nat) (oi oj : Oper) (t : Tmp), ops[i]? = some oi → ops[j]? = some oj → oi.dst = some t → oj.dst = some t → i = j := by
    intro i j oi oj t hi hj ti tj
    by_cases e : i = j
    · exact e
    · exact absurd tj (((seqOk_spec hok hj).2.2 i oi hi e t ti).1)
  have main : ∀ (fuel : Nat) (listed : Array Bool) (b : Act) (w : World), ((List.range m).filter (fun k => !listed.getD k true)).length + (ops.size - m) ≤ fuel →
      Midway ops a (A m) listed b → (∀ k, listed.getD k false = true → k < m) → S w → wpAny P .any ops Q fuel listed b w := by
    intro fuel
    induction fuel with
    | zero =>
      intro listed b w hf hM hin hw
      have hall : ∀ k, k < m → listed.getD k false = true := by
        intro k hk
        have hnil : (List.range m).filter (fun k => !listed.getD k true) = [] := List.length_eq_zero_iff.1 (by omega)
        have := (List.filter_eq_nil_iff.1 hnil) k (List.mem_range.2 hk)
        have hkl : k < listed.size := by rw [hM.len]; omega
        simpa [hkl] using this
      have hfin : b = A m := by
        refine act_ext (Array.ext_getElem? fun t => ?_) (by rw [hM.defers, (asz _ (Nat.le_refl _)).2])
        by_cases hx : ∃ (k : Nat) (o : Oper), k < m ∧ ops[k]? = some o ∧ o.dst = some t
        · obtain ⟨k, o, hk, ho, ht⟩ := hx
          exact hM.done k o t ho (hall k hk) ht
        · rw [hM.left t (fun k o ho hl ht => hx ⟨k, o, hin k hl, ho, ht⟩), far 0 t m (by omega) (Nat.le_refl _) (fun i o _ hi ho ht => hx ⟨i, o, hi, ho, ht⟩), hA0]
      rw [hfin]
      exact forced hok ht (ops.size - m) m 0 listed _ w rfl (by omega) (Nat.le_refl _) hms ⟨hM.len, fun i _ => ⟨fun e => hin i e, fun e => hall i e⟩⟩ hM.closed (hQ w hw)
    | succ fuel ih =>
      intro listed b w hf hM hin hw
      by_cases hall : ∀ k, k < m → listed.getD k false = true
      · have hfin : b = A m := by
          refine act_ext (Array.ext_getElem? fun t => ?_) (by rw [hM.defers, (asz _ (Nat.le_refl _)).2])
          by_cases hx : ∃ (k : Nat) (o : Oper), k < m ∧ ops[k]? = some o ∧ o.dst = some t
          · obtain ⟨k, o, hk, ho, ht⟩ := hx
            exact hM.done k o t ho (hall k hk) ht
          · rw [hM.left t (fun k o ho hl ht => hx ⟨k, o, hin k hl, ho, ht⟩), far 0 t m (by omega) (Nat.le_refl _) (fun i o _ hi ho ht => hx ⟨i, o, hi, ho, ht⟩), hA0]
        rw [hfin]
        exact forced hok ht (ops.size - m) m (fuel + 1) listed _ w rfl (by omega) (Nat.le_refl _) hms ⟨hM.len, fun i _ => ⟨fun e => hin i e, fun e => hall i e⟩⟩ hM.closed (hQ w hw)
      · refine ⟨fun hnil => absurd ?_ hall, fun j hj => ?_⟩
        · -- nothing may come up: then all has
          have hall' : ∀ n k, k < n → k < m → listed.getD k false = true := by
            intro n
            induction n with
            | zero => intro k hk; omega
            | succ n ihn =>
              intro k hk hs
              by_cases hl : listed.getD k false = true
              · exact hl
              · exfalso
                have hks : k < ops.size := by omega
                have hkl : k < listed.size := by rw [hM.len]; exact hks
                have hmem : k ∈ Region.ready .any ops listed := mem_ready.2 ⟨by simpa [hkl] using hl, _, Array.getElem?_eq_getElem hks, fun e he hb => by
                  have hlt := (seqOk_spec hok (Array.getElem?_eq_getElem hks)).2.1 e he hb
                  exact ihn e.on (by omega) (by omega)⟩
                rw [hnil] at hmem
                cases hmem
          exact fun k hk => hall' _ k (Nat.lt_succ_self k) hk
        · obtain ⟨hjun, o, ho, hedges⟩ := mem_ready.1 hj
          have hjs : j < ops.size := (Array.getElem?_eq_some_iff.1 ho).1
          have hjl : j < listed.size := by rw [hM.len]; exact hjs
          have hjun' : listed.getD j false = false := by simpa [hjl] using hjun
          have hmet : AllMet ops listed j := fun o' ho' e he hb => by
            rw [ho] at ho'
            cases ho'
            exact hedges e he hb
          have hjm : j < m := by
            refine Nat.lt_of_not_le fun hle => hall fun k hk => ?_
            exact met_bit hM.closed k (j + 1) j (by omega) hjs hmet (tailOk_spec ht hjs hle (by omega))
          obtain ⟨v, hv, step⟩ := hA' j o hjm ho
          have hag : Agree ops o (A j) b := by
            refine ⟨by rw [hM.size, (asz j (by omega)).1], fun t ht => ?_⟩
            by_cases hx : ∃ (i : Nat) (oi : Oper), ops[i]? = some oi ∧ oi.dst = some t
            · obtain ⟨i, oi, hi, hti⟩ := hx
              by_cases hij : i = j
              · rw [hM.left t (fun k ok hk hlk htk => by
                  have : k = i := unlike k i ok oi t hk hi htk hti
                  rw [this, hij, hjun'] at hlk
                  cases hlk), far 0 t j (by omega) (by omega) (fun k ok _ hk hok' htk => by
                  have : k = i := unlike k i ok oi t hok' hi htk hti
                  omega), hA0]
              · rcases ((seqOk_spec hok ho).2.2 i oi hi hij t hti).2 ht with ⟨hlt, hbit⟩ | ⟨hlt, hbit⟩
                · have hli := met_bit hM.closed i (j + 1) j (by omega) hjs hmet hbit
                  rw [hM.done i oi t hi hli hti]
                  exact far j t m (by omega) (Nat.le_refl _) (fun k ok hk _ hok' htk => by
                    have : k = i := unlike k i ok oi t hok' hi htk hti
                    omega)
                · have hun : listed.getD i false ≠ true := fun hli => by
                    have his : i < ops.size := (Array.getElem?_eq_some_iff.1 hi).1
                    have := met_bit hM.closed j (i + 1) i (by omega) his (hM.closed i hli) hbit
                    rw [hjun'] at this
                    cases this
                  rw [hM.left t (fun k ok hk hlk htk => by
                    have : k = i := unlike k i ok oi t hk hi htk hti
                    rw [this] at hlk
                    exact hun hlk), far 0 t j (by omega) (by omega) (fun k ok _ hk hok' htk => by
                    have : k = i := unlike k i ok oi t hok' hi htk hti
                    omega), hA0]
            · rw [hM.left t (fun k ok hk _ htk => hx ⟨k, ok, hk, htk⟩), far 0 t j (by omega) (by omega) (fun k ok _ _ hk htk => hx ⟨k, ok, hk, htk⟩), hA0]
          have hM' : Midway ops a (A m) (listed.setIfInBounds j true) (b.put o.dst v) := by
            refine ⟨by rw [put_size, hM.size], by rw [put_defs, hM.defers], by rw [Array.size_setIfInBounds, hM.len], fun y hy => ?_, fun k ok t hk hlk htk => ?_, fun t hno => ?_⟩
            · intro oy hoy e he hb
              by_cases hyj : j = y
              · subst hyj
                exact getD_set_true (hmet oy hoy e he hb)
              · rw [getD_set_ne false hyj] at hy
                exact getD_set_true (hM.closed y hy oy hoy e he hb)
            · by_cases hkj : j = k
              · subst hkj
                rw [ho] at hk
                cases hk
                rw [htk, put_at (b := A j) (by rw [hM.size, (asz j (by omega)).1]), ← htk, ← hv]
                exact (far (j + 1) t m (by omega) (Nat.le_refl _) (fun i oi hi _ hoi hti => by
                  have : i = j := unlike i j oi o t hoi ho hti htk
                  omega)).symm
              · rw [getD_set_ne false hkj] at hlk
                rw [put_ne (fun e => hkj (unlike j k o ok t ho hk e htk))]
                exact hM.done k ok t hk hlk htk
            · have hjt : o.dst ≠ some t := hno j o ho (by simp [hjl])
              rw [put_ne hjt]
              refine hM.left t (fun k ok hk hlk => hno k ok hk ?_)
              exact getD_set_true hlk
          unfold wpOp
          simp only [ho]
          refine step b w _ Q hag hw (fun w' hw' => ih _ _ w' ?_ hM' (fun k hk => ?_) hw')
          · have := count_lt (p := fun k => !listed.getD k true) (q := fun k => !(listed.setIfInBounds j true).getD k true) (fun k hk => by
              by_cases hkj : j = k
              · subst hkj; simp [hjun]
              · rw [getD_set_ne true hkj] at hk; exact hk) (j := j) (by simp [hjun]) (by simp [hjl]) (List.mem_range.2 hjm)
            omega
          · by_cases hkj : j = k
            · omega
            · rw [getD_set_ne false hkj] at hk
              exact hin k hk
  refine wp_region_any hm (main ops.size _ a w.drew ?_ ?_ ?_ hS)
  · have := List.length_filter_le (fun k => !(Array.replicate ops.size false).getD k true) (List.range m)
    simp only [List.length_range] at this
    omega
  · refine ⟨rfl, rfl, by simp, fun y hy => ?_, fun k o t ho hk _ => ?_, fun t _ => rfl⟩
    · simp [Array.getElem?_replicate] at hy
      split at hy <;> simp at hy
    · simp [Array.getElem?_replicate] at hk
      split at hk <;> simp at hk
  · intro k hk
    simp [Array.getElem?_replicate] at hk
    split at hk <;> simp at hk
/-- An operation whose guard is not decided: its value, or none. -/
theorem gives_guard {o : Oper} {a : Act} {v : Value} (x : Bool) (hw : Region.wanted o (yielded ops a.tmps) = x) (h : x = true → Gives P ops S { o with guard := none } a (a.put o.dst v)) :
    Gives P ops S o a (a.put o.dst (bif x then v else undef)) := by
  intro w hS
  unfold wpList
  cases x with
  | true =>
    rw [if_pos hw]
    have h1 := h rfl w hS
    unfold wpList at h1
    rw [if_pos (by simp [Region.wanted])] at h1
    exact h1
  | false =>
    rw [if_neg (by rw [hw]; simp)]
    exact ⟨rfl, rfl, hS⟩
theorem wanted_yes {o : Oper} {a : Act} {j : Nat} {t : Tmp} {b : Bool} (hg : o.guard = some (j, true)) (ht : (ops[j]?).bind (·.dst) = some t) (hb : a.tmps[t]? = some (.bool b)) :
    Region.wanted o (yielded ops a.tmps) = b := by simp [Region.wanted, hg, yielded, ht, hb]
theorem wanted_no {o : Oper} {a : Act} {j : Nat} {t : Tmp} {b : Bool} (hg : o.guard = some (j, false)) (ht : (ops[j]?).bind (·.dst) = some t) (hb : a.tmps[t]? = some (.bool b)) :
    Region.wanted o (yielded ops a.tmps) = !b := by cases b <;> simp [Region.wanted, hg, yielded, ht, hb]
theorem wanted_yes2 {o : Oper} {a : Act} {j : Nat} {t : Tmp} {b g : Bool} (hg : o.guard = some (j, true)) (ht : (ops[j]?).bind (·.dst) = some t) (hb : a.tmps[t]? = some (bif g then .bool b else undef)) :
    Region.wanted o (yielded ops a.tmps) = (g && b) := by cases g <;> simp [Region.wanted, hg, yielded, ht, hb, undef]
theorem wanted_no2 {o : Oper} {a : Act} {j : Nat} {t : Tmp} {b g : Bool} (hg : o.guard = some (j, false)) (ht : (ops[j]?).bind (·.dst) = some t) (hb : a.tmps[t]? = some (bif g then .bool b else undef)) :
    Region.wanted o (yielded ops a.tmps) = (g && !b) := by cases g <;> cases b <;> simp [Region.wanted, hg, yielded, ht, hb, undef]
/-- '&&' and '||' whose left side is not decided. -/
theorem gives_and {o : Oper} {a : Act} {t u : Tmp} {p q : Bool} (ho : o.op = .pick (.tmp t) (.tmp u) (.const (.bool false))) (hg : o.guard = none) (ht : a.tmps[t]? = some (.bool p))
    (hu : a.tmps[u]? = some (bif p then .bool q else undef)) : Gives P ops S o a (a.put o.dst (.bool (p && q))) := by
  intro w hS
  unfold wpList
  rw [if_pos (by simp [Region.wanted, hg])]
  refine .inl ?_
  unfold Oper.wp
  have hr : (execOp a.eval o).run P w = .ok (.value (.bool (p && q))) w := by
    unfold execOp
    rw [ho]
    cases p <;> simp [Act.eval, ht, hu, asBool]
  rw [hr]
  exact ⟨rfl, rfl, hS⟩
theorem gives_or {o : Oper} {a : Act} {t u : Tmp} {p q : Bool} (ho : o.op = .pick (.tmp t) (.const (.bool true)) (.tmp u)) (hg : o.guard = none) (ht : a.tmps[t]? = some (.bool p))
    (hu : a.tmps[u]? = some (bif !p then .bool q else undef)) : Gives P ops S o a (a.put o.dst (.bool (p || q))) := by
  intro w hS
  unfold wpList
  rw [if_pos (by simp [Region.wanted, hg])]
  refine .inl ?_
  unfold Oper.wp
  have hr : (execOp a.eval o).run P w = .ok (.value (.bool (p || q))) w := by
    unfold execOp
    rw [ho]
    cases p <;> simp [Act.eval, ht, hu, asBool]
  rw [hr]
  exact ⟨rfl, rfl, hS⟩
theorem walked_cons {Qf : Act → Prop} {o : Oper} {r : List Oper} {a a' : Act} (hg : Gives P ops S o a a') (hd : a'.defers = a.defers) (hr : Walked P ops S Qf r a') : Walked P ops S Qf (o :: r) a := ⟨a', hg, hd, hr⟩
theorem walked_nil {Qf : Act → Prop} {a : Act} (h : Qf a) : Walked P ops S Qf [] a := h
end
end Go.Proofs.Ytnmccihgiphmjaa
namespace Go.Proofs.Ytnmccihgiphmjaa
set_option linter.unusedVariables false
set_option linter.unusedSimpArgs false
open Go.RowKit
section
variable {P : Program} {ops : Array Oper} {S : Array Bool → World → Prop} {Q : Exit → Act → World → Prop}
end
end Go.Proofs.Ytnmccihgiphmjaa
namespace Go.Proofs.Ytnmccihgiphmjaa
set_option linter.unusedVariables false
set_option linter.unusedSimpArgs false
open Go.RowKit
section
variable {P : Program} {w : World}
theorem run_loadVar_at (g o : Nat) (ty : TypeId) (cells : List Value) (d : TypeDesc) (hc : ∀ (c : Nat) (v : Value), cells[c]? = some v → w.cell? ⟨g, o + c, none⟩ = some v)
    (hu : P.underlying ty = some d) (hd : (match d with | .struct _ | .array _ _ => true | _ => false) = true) (hi : (P.info? ty).map (·.size) = some cells.length) :
    (loadVar ty ⟨g, o, none⟩).run P w = .ok (.agg cells.toArray) w := by
  have hl : (loadCells ⟨g, o, none⟩ cells.length).run P w = .ok cells.toArray w :=
    run_loadCells_list (P := P) w ⟨g, o, none⟩ cells (fun j v hv => by
      rw [add_eq _ _ rfl]
      exact hc j v hv)
  cases hq : P.info? ty with
  | none => simp [hq] at hi
  | some i =>
    have hs : i.size = cells.length := by simpa [hq] using hi
    have hagg : (isAgg ty).run P w = .ok true w := by
      unfold isAgg
      rw [Sem.run_bind, run_underlying hu w]
      cases d <;> simp_all
    simp [loadVar, Sem.run_bind, hagg, sizeOf, typeInfo, hq, hs, hl]
theorem wpList_load_at {ops : Array Oper} {rest : List Oper} {o : Oper} {a : Act} {Q : Exit → Act → World → Prop} (hgd : o.guard = none) (ty : TypeId) (x : Operand) (ho : o.op = .load ty x)
    (g off : Nat) (hx : a.eval x = .pointer (some ⟨g, off, none⟩)) (cells : List Value) (d : TypeDesc) (hc : ∀ (c : Nat) (v : Value), cells[c]? = some v → w.cell? ⟨g, off + c, none⟩ = some v)
    (hu : P.underlying ty = some d) (hd : (match d with | .struct _ | .array _ _ => true | _ => false) = true) (hi : (P.info? ty).map (·.size) = some cells.length)
    (h : wpList P ops Q rest (a.put o.dst (.agg cells.toArray)) w) : wpList P ops Q (o :: rest) a w := by
  refine wpList_plain hgd fun K hK => ?_
  unfold Oper.wp execOp
  simp only [ho, hx, Instr.loadAt, Instr.sureAddr, Sem.run_bind, Sem.run_pure, Result.andThen_ok, run_loadVar_at g off ty cells d hc hu hd hi]
  exact hK _ _ h
end
section
variable {α : Type} {f : α → List Value} {k : Nat}
end
end Go.Proofs.Ytnmccihgiphmjaa
/- As Stage; and each operation is told that its predecessors have come. No function of the program stands here. -/
namespace Go.Proofs.Ytnmccihgiphmjaa
set_option linter.unusedVariables false
set_option linter.unusedSimpArgs false
open Go.RowKit
section
variable {P : Program} {ops : Array Oper} {S : Array Bool → World → Prop} {Q : Exit → Act → World → Prop}
/-- Operation number j (of n) comes to the frame a', wherever it comes up. -/
def GivesM (P : Program) (ops : Array Oper) (S : Array Bool → World → Prop) (n j : Nat) (o : Oper) (a a' : Act) : Prop :=
  ∀ (l : Array Bool) (w : World), l.size = n → l.getD j false = false → AllMet ops l j → S l w → wpList P ops (Fin (S (l.setIfInBounds j true)) a') [o] a w
/-- The operations one by one, in the order of the text. -/
def WalkedM (P : Program) (ops : Array Oper) (S : Array Bool → World → Prop) (n : Nat) (Q : Act → Prop) : List Oper → Nat → Act → Prop
  | [], _, a => Q a
  | o :: r, j, a => ∃ a', GivesM P ops S n j o a a' ∧ a'.defers = a.defers ∧ WalkedM P ops S n Q r (j + 1) a'
/-- What an operation gives at one frame it gives at every frame that agrees on what it looks at. -/
theorem gives_valsM {n j : Nat} {o : Oper} {a a' : Act} (h : GivesM P ops S n j o a a') (hd : a'.defers = a.defers) (hs : ∀ cs c, o.op ≠ .select cs c) {l0 : Array Bool} {w0 : World} (z0 : l0.size = n) (n0 : l0.getD j false = false) (m0 : AllMet ops l0 j) (h0 : S l0 w0) :
    ∃ v, a' = a.put o.dst v ∧ (∃ w1, S (l0.setIfInBounds j true) w1) ∧ ∀ (l : Array Bool) (b : Act) (w : World) (K : Act → World → Prop) (Q : Exit → Act → World → Prop), Agree ops o a b → l.size = n → l.getD j false = false → AllMet ops l j → S l w → (∀ w', S (l.setIfInBounds j true) w' → K (b.put o.dst v) w') →
      (if Region.wanted o (yielded ops b.tmps) then o.wp P b w K Q ∨ (o.asks P b w ∧ LetsOut Q) else K (b.put o.dst undef) w) := by
  by_cases hw : Region.wanted o (yielded ops a.tmps) = true
  · -- what it comes to in a world of S
    have key : ∀ l w, l.size = n → l.getD j false = false → AllMet ops l j → S l w → o.wp P a w (fun a'' w' => a'' = a' ∧ S (l.setIfInBounds j true) w') (fun _ _ _ => False) := by
      intro l w hz hn hm hS
      have h1 := h l w hz hn hm hS
      unfold wpList at h1
      rw [if_pos hw] at h1
      rcases h1 with h1 | ⟨_, a1, w1, h1, _⟩
      · unfold Oper.wp at h1 ⊢
        generalize (execOp a.eval o).run P w = r at h1 ⊢
        cases r with
        | ok n w' =>
          cases n with
          | value v => exact h1.2
          | skip => exact h1.2
          | defer d => exact h1.2
          | enter f args =>
            simp only [Oper.upon] at h1 ⊢
            refine Calls.mono h1 fun e w'' he => ?_
            cases e with
            | returned v => exact he.2
            | panicked c => exact absurd he.1 (by simp)
            | outgrown => obtain ⟨_, _, h2, _⟩ := he; exact absurd h2 (by simp)
          | row row args =>
            simp only [Oper.upon] at h1 ⊢
            exact Rows.mono h1 fun v w'' he => he.2
          | _ => exact (h1 : False).elim
        | halt x w' =>
          cases x <;> simp only [Oper.upon] at h1 ⊢ <;> first | exact h1 | exact absurd h1.1 (by simp)
      · exact absurd h1 (by simp)
    have nodefer : ∀ d, ({ a with defers := d :: a.defers } : Act).put o.dst undef ≠ a' := by
      intro d e
      have h1 := congrArg Act.defers e
      rw [hd] at h1
      have h2 : (({ a with defers := d :: a.defers } : Act).put o.dst undef).defers = d :: a.defers := by cases o.dst <;> rfl
      rw [h2] at h1
      have := congrArg List.length h1
      simp at this
    -- the value
    have hv : ∃ v, a' = a.put o.dst v ∧ ∃ w1, S (l0.setIfInBounds j true) w1 := by
      have k0 := key l0 w0 z0 n0 m0 h0
      unfold Oper.wp at k0
      generalize (execOp a.eval o).run P w0 = r at k0
      cases r with
      | ok n w' =>
        cases n with
        | value v => exact ⟨v, k0.1.symm, _, k0.2⟩
        | skip => exact ⟨undef, k0.1.symm, _, k0.2⟩
        | defer d => exact absurd k0.1 (nodefer d)
        | enter f args =>
          simp only [Oper.upon] at k0
          obtain ⟨e, w'', fr, hr, _⟩ := k0 []
          cases e with
          | returned v => exact ⟨v, hr.1.symm, _, hr.2⟩
          | panicked c => exact hr.elim
          | outgrown => obtain ⟨_, _, h2⟩ := hr; exact h2.elim
        | row row args =>
          simp only [Oper.upon] at k0
          obtain ⟨v, w'', hr, _⟩ := k0 default []
          exact ⟨v, hr.1.symm, _, hr.2⟩
        | _ => exact (k0 : False).elim
      | halt x w' => cases x <;> simp only [Oper.upon] at k0
    obtain ⟨v, hv, hw1⟩ := hv
    refine ⟨v, hv, hw1, fun l b w K Q hab hz hn hm hS hK => ?_⟩
    rw [agree_wanted hab, if_pos hw]
    refine .inl ?_
    have k := key l w hz hn hm hS
    unfold Oper.wp at k ⊢
    rw [agree_eval hab hs]
    have same : ∀ u, a.put o.dst u = a' → b.put o.dst u = b.put o.dst v := fun u hu => put_same hab.1 (hu.trans hv)
    generalize (execOp a.eval o).run P w = r at k ⊢
    cases r with
    | ok n w' =>
      cases n with
      | value u => show K _ _; rw [same u k.1]; exact hK _ k.2
      | skip => show K _ _; rw [same undef k.1]; exact hK _ k.2
      | defer d => exact absurd k.1 (nodefer d)
      | enter f args =>
        simp only [Oper.upon] at k ⊢
        refine Calls.mono k fun e w'' he => ?_
        cases e with
        | returned u => show K _ _; rw [same u he.1]; exact hK _ he.2
        | panicked c => exact he.elim
        | outgrown => obtain ⟨_, _, h2⟩ := he; exact h2.elim
      | row row args =>
        simp only [Oper.upon] at k ⊢
        refine Rows.mono k fun u w'' he => ?_
        rw [same u he.1]; exact hK _ he.2
      | _ => exact (k : False).elim
    | halt x w' => cases x <;> simp only [Oper.upon] at k
  · have hw' : Region.wanted o (yielded ops a.tmps) = false := by simpa using hw
    refine ⟨undef, ?_, ?_, fun l b w K Q hab hz hn hm hS hK => ?_⟩
    · have h1 := h l0 w0 z0 n0 m0 h0
      unfold wpList at h1
      rw [if_neg hw] at h1
      exact h1.2.1.symm
    · have h1 := h l0 w0 z0 n0 m0 h0
      unfold wpList at h1
      rw [if_neg hw] at h1
      exact ⟨_, h1.2.2⟩
    · rw [agree_wanted hab, if_neg hw]
      have h1 := h l w hz hn hm hS
      unfold wpList at h1
      rw [if_neg hw] at h1
      exact hK w h1.2.2
theorem walkedM_chain {n : Nat} {Qf : Act → Prop} (hord : ∀ (j : Nat) (o : Oper) e, ops[j]? = some o → e ∈ o.after → Region.binds .any e = true → e.on < j) : ∀ {L : List Oper} (_ : ∀ (j : Nat) (o : Oper), L[j]? = some o → ∀ cs c, o.op ≠ .select cs c) (a : Act) (l0 : Array Bool) (w0 : World) {j0 : Nat}, l0.size = n → (∀ i, j0 ≤ i → l0.getD i false = false) → (∀ i, i < j0 → l0.getD i false = true) → j0 + L.length ≤ n → S l0 w0 →
    WalkedM P ops S n Qf L j0 a →
    ∃ A : Nat → Act, A 0 = a ∧ (∀ k o, L[k]? = some o → ∃ v, A (k + 1) = (A k).put o.dst v ∧ ∀ (l : Array Bool) (b : Act) (w : World) (K : Act → World → Prop) (Q : Exit → Act → World → Prop), Agree ops o (A k) b → l.size = n → l.getD (j0 + k) false = false → AllMet ops l (j0 + k) → S l w →
      (∀ w', S (l.setIfInBounds (j0 + k) true) w' → K (b.put o.dst v) w') → (if Region.wanted o (yielded ops b.tmps) then o.wp P b w K Q ∨ (o.asks P b w ∧ LetsOut Q) else K (b.put o.dst undef) w)) ∧ Qf (A L.length) := by
  intro L
  induction L with
  | nil => intro _ a l0 w0 j0 _ _ _ _ _ h; exact ⟨fun _ => a, rfl, fun k o hk => by simp at hk, h⟩
  | cons o L ih =>
    intro hs a l0 w0 j0 hz hn hdone hlen h0 h
    obtain ⟨a', hg, hd, hr⟩ := h
    obtain ⟨v, hv, ⟨w1, h1⟩, step⟩ := gives_valsM hg hd (hs 0 o rfl) hz (hn j0 (Nat.le_refl _)) (fun o' ho' e he hb => hdone e.on (hord j0 o' e ho' he hb)) h0
    obtain ⟨A, hA0, hA1, hA2⟩ := ih (fun j o' ho' => hs (j + 1) o' (by simpa using ho')) a' (l0.setIfInBounds j0 true) w1 (j0 := j0 + 1) (by rw [Array.size_setIfInBounds, hz]) (fun i hi => by
      rw [getD_set_ne false (by omega)]; exact hn i (by omega)) (fun i hi => by
      rw [List.length_cons] at hlen
      by_cases e : j0 = i
      · subst e; simp [hz]; omega
      · rw [getD_set_ne false e]; exact hdone i (by omega)) (by rw [List.length_cons] at hlen; omega) h1 hr
    refine ⟨fun k => match k with | 0 => a | k + 1 => A k, rfl, fun k o' hk => ?_, hA2⟩
    cases k with
    | zero =>
      simp at hk
      subst hk
      exact ⟨v, by show A 0 = a.put o.dst v; rw [hA0]; exact hv, step⟩
    | succ k =>
      have := hA1 k o' (by simpa using hk)
      rw [show j0 + 1 + k = j0 + (k + 1) by omega] at this
      exact this
/-- **A statement whose order is open, and which ends in operations that wait for all ahead of them (a store, an append): one walk, in the order of the text, is enough.** -/
theorem wp_region_met (m : Nat) {id : Nat} {a : Act} {w : World} (hm : P.follows .mixedOrders = true) (hok : seqOk ops = true) (ht : tailOk ops m = true) (hms : m ≤ ops.size) (hS : S (Array.replicate ops.size false) w.drew)
    (h : WalkedM P ops S ops.size (fun a' => ∀ l w', l.size = ops.size → (∀ k, k < m → l.getD k false = true) → S l w' → wpList P ops Q (ops.toList.drop m) a' w') (ops.toList.take m) 0 a) : (Code.region id ops true).wp P Q a w := by
  obtain ⟨A, hA0, hA, hQ⟩ := walkedM_chain (fun j o e ho he hb => (seqOk_spec hok ho).2.1 e he hb) (fun j o ho => (seqOk_spec (j := j) hok (by rw [List.getElem?_take] at ho; split at ho; (· simpa using ho); (· cases ho))).1) _ _ _ (by simp) (fun i _ => by simp [Array.getElem?_replicate]; split <;> rfl) (fun i hi => absurd hi (Nat.not_lt_zero _)) (by simp [Nat.min_eq_left hms]; omega) hS h
  have hA' : ∀ k o, k < m → ops[k]? = some o → ∃ v, A (k + 1) = (A k).put o.dst v ∧ ∀ (l : Array Bool) (b : Act) (w : World) (K : Act → World → Prop) (Q : Exit → Act → World → Prop), Agree ops o (A k) b → l.size = ops.size → l.getD k false = false → AllMet ops l k → S l w →
      (∀ w', S (l.setIfInBounds k true) w' → K (b.put o.dst v) w') → (if Region.wanted o (yielded ops b.tmps) then o.wp P b w K Q ∨ (o.asks P b w ∧ LetsOut Q) else K (b.put o.dst undef) w) := fun k o hk ho => by
    simpa using hA k o (by rw [List.getElem?_take, if_pos hk]; simpa using ho)
  have hlen : (ops.toList.take m).length = m := by simp [Nat.min_eq_left hms]
  rw [hlen] at hQ
  have asz : ∀ k, k ≤ m → (A k).tmps.size = a.tmps.size ∧ (A k).defers = a.defers := by
    intro k
    induction k with
    | zero => intro _; rw [hA0]; exact ⟨rfl, rfl⟩
    | succ k ih =>
      intro hk
      obtain ⟨v, hv, _⟩ := hA' k _ (by omega) (Array.getElem?_eq_getElem (show k < ops.size by omega))
      obtain ⟨i1, i2⟩ := ih (by omega)
      rw [hv, put_size, put_defs]; exact ⟨i1, i2⟩
  have far : ∀ k t n, k ≤ n → n ≤ m → (∀ i o, k ≤ i → i < n → ops[i]? = some o → o.dst ≠ some t) → (A n).tmps[t]? = (A k).tmps[t]? := by
    intro k t n
    induction n with
    | zero => intro h1 _ _; rw [show k = 0 by omega]
    | succ n ih =>
      intro h1 h2 hno
      by_cases hkm : k = n + 1
      · rw [hkm]
      · obtain ⟨v, hv, _⟩ := hA' n _ (by omega) (Array.getElem?_eq_getElem (show n < ops.size by omega))
        rw [hv, put_ne (hno n _ (by omega) (by omega) (Array.getElem?_eq_getElem (show n < ops.size by omega)))]
        exact ih (by omega) (by omega) (fun i o hi hi' ho => hno i o hi (by omega) ho)
  have unlike : ∀ (i j : Nat) (oi oj : Oper) (t : Tmp), ops[i]? = some oi → ops[j]? = some oj → oi.dst = some t → oj.dst = some t → i = j := by
    intro i j oi oj t hi hj ti tj
    by_cases e : i = j
    · exact e
    · exact absurd tj (((seqOk_spec hok hj).2.2 i oi hi e t ti).1)
  have main : ∀ (fuel : Nat) (listed : Array Bool) (b : Act) (w : World), ((List.range m).filter (fun k => !listed.getD k true)).length + (ops.size - m) ≤ fuel →
      Midway ops a (A m) listed b → (∀ k, listed.getD k false = true → k < m) → S listed w → wpAny P .any ops Q fuel listed b w := by
    intro fuel
    induction fuel with
    | zero =>
      intro listed b w hf hM hin hw
      have hall : ∀ k, k < m → listed.getD k false = true := by
        intro k hk
        have hnil : (List.range m).filter (fun k => !listed.getD k true) = [] := List.length_eq_zero_iff.1 (by omega)
        have := (List.filter_eq_nil_iff.1 hnil) k (List.mem_range.2 hk)
        have hkl : k < listed.size := by rw [hM.len]; omega
        simpa [hkl] using this
      have hfin : b = A m := by
        refine act_ext (Array.ext_getElem? fun t => ?_) (by rw [hM.defers, (asz _ (Nat.le_refl _)).2])
        by_cases hx : ∃ (k : Nat) (o : Oper), k < m ∧ ops[k]? = some o ∧ o.dst = some t
        · obtain ⟨k, o, hk, ho, ht⟩ := hx
          exact hM.done k o t ho (hall k hk) ht
        · rw [hM.left t (fun k o ho hl ht => hx ⟨k, o, hin k hl, ho, ht⟩), far 0 t m (by omega) (Nat.le_refl _) (fun i o _ hi ho ht => hx ⟨i, o, hi, ho, ht⟩), hA0]
      rw [hfin]
      exact forced hok ht (ops.size - m) m 0 listed _ w rfl (by omega) (Nat.le_refl _) hms ⟨hM.len, fun i _ => ⟨fun e => hin i e, fun e => hall i e⟩⟩ hM.closed (hQ listed w hM.len hall hw)
    | succ fuel ih =>
      intro listed b w hf hM hin hw
      by_cases hall : ∀ k, k < m → listed.getD k false = true
      · have hfin : b = A m := by
          refine act_ext (Array.ext_getElem? fun t => ?_) (by rw [hM.defers, (asz _ (Nat.le_refl _)).2])
          by_cases hx : ∃ (k : Nat) (o : Oper), k < m ∧ ops[k]? = some o ∧ o.dst = some t
          · obtain ⟨k, o, hk, ho, ht⟩ := hx
            exact hM.done k o t ho (hall k hk) ht
          · rw [hM.left t (fun k o ho hl ht => hx ⟨k, o, hin k hl, ho, ht⟩), far 0 t m (by omega) (Nat.le_refl _) (fun i o _ hi ho ht => hx ⟨i, o, hi, ho, ht⟩), hA0]
        rw [hfin]
        exact forced hok ht (ops.size - m) m (fuel + 1) listed _ w rfl (by omega) (Nat.le_refl _) hms ⟨hM.len, fun i _ => ⟨fun e => hin i e, fun e => hall i e⟩⟩ hM.closed (hQ listed w hM.len hall hw)
      · refine ⟨fun hnil => absurd ?_ hall, fun j hj => ?_⟩
        · -- nothing may come up: then all has
          have hall' : ∀ n k, k < n → k < m → listed.getD k false = true := by
            intro n
            induction n with
            | zero => intro k hk; omega
            | succ n ihn =>
              intro k hk hs
              by_cases hl : listed.getD k false = true
              · exact hl
              · exfalso
                have hks : k < ops.size := by omega
                have hkl : k < listed.size := by rw [hM.len]; exact hks
                have hmem : k ∈ Region.ready .any ops listed := mem_ready.2 ⟨by simpa [hkl] using hl, _, Array.getElem?_eq_getElem hks, fun e he hb => by
                  have hlt := (seqOk_spec hok (Array.getElem?_eq_getElem hks)).2.1 e he hb
                  exact ihn e.on (by omega) (by omega)⟩
                rw [hnil] at hmem
                cases hmem
          exact fun k hk => hall' _ k (Nat.lt_succ_self k) hk
        · obtain ⟨hjun, o, ho, hedges⟩ := mem_ready.1 hj
          have hjs : j < ops.size := (Array.getElem?_eq_some_iff.1 ho).1
          have hjl : j < listed.size := by rw [hM.len]; exact hjs
          have hjun' : listed.getD j false = false := by simpa [hjl] using hjun
          have hmet : AllMet ops listed j := fun o' ho' e he hb => by
            rw [ho] at ho'
            cases ho'
            exact hedges e he hb
          have hjm : j < m := by
            refine Nat.lt_of_not_le fun hle => hall fun k hk => ?_
            exact met_bit hM.closed k (j + 1) j (by omega) hjs hmet (tailOk_spec ht hjs hle (by omega))
          obtain ⟨v, hv, step⟩ := hA' j o hjm ho
          have hag : Agree ops o (A j) b := by
            refine ⟨by rw [hM.size, (asz j (by omega)).1], fun t ht => ?_⟩
            by_cases hx : ∃ (i : Nat) (oi : Oper), ops[i]? = some oi ∧ oi.dst = some t
            · obtain ⟨i, oi, hi, hti⟩ := hx
              by_cases hij : i = j
              · rw [hM.left t (fun k ok hk hlk htk => by
                  have : k = i := unlike k i ok oi t hk hi htk hti
                  rw [this, hij, hjun'] at hlk
                  cases hlk), far 0 t j (by omega) (by omega) (fun k ok _ hk hok' htk => by
                  have : k = i := unlike k i ok oi t hok' hi htk hti
                  omega), hA0]
              · rcases ((seqOk_spec hok ho).2.2 i oi hi hij t hti).2 ht with ⟨hlt, hbit⟩ | ⟨hlt, hbit⟩
                · have hli := met_bit hM.closed i (j + 1) j (by omega) hjs hmet hbit
                  rw [hM.done i oi t hi hli hti]
                  exact far j t m (by omega) (Nat.le_refl _) (fun k ok hk _ hok' htk => by
                    have : k = i := unlike k i ok oi t hok' hi htk hti
                    omega)
                · have hun : listed.getD i false ≠ true := fun hli => by
                    have his : i < ops.size := (Array.getElem?_eq_some_iff.1 hi).1
                    have := met_bit hM.closed j (i + 1) i (by omega) his (hM.closed i hli) hbit
                    rw [hjun'] at this
                    cases this
                  rw [hM.left t (fun k ok hk hlk htk => by
                    have : k = i := unlike k i ok oi t hk hi htk hti
                    rw [this] at hlk
                    exact hun hlk), far 0 t j (by omega) (by omega) (fun k ok _ hk hok' htk => by
                    have : k = i := unlike k i ok oi t hok' hi htk hti
                    omega), hA0]
            · rw [hM.left t (fun k ok hk _ htk => hx ⟨k, ok, hk, htk⟩), far 0 t j (by omega) (by omega) (fun k ok _ _ hk htk => hx ⟨k, ok, hk, htk⟩), hA0]
          have hM' : Midway ops a (A m) (listed.setIfInBounds j true) (b.put o.dst v) := by
            refine ⟨by rw [put_size, hM.size], by rw [put_defs, hM.defers], by rw [Array.size_setIfInBounds, hM.len], fun y hy => ?_, fun k ok t hk hlk htk => ?_, fun t hno => ?_⟩
            · intro oy hoy e he hb
              by_cases hyj : j = y
              · subst hyj
                exact getD_set_true (hmet oy hoy e he hb)
              · rw [getD_set_ne false hyj] at hy
                exact getD_set_true (hM.closed y hy oy hoy e he hb)
            · by_cases hkj : j = k
              · subst hkj
                rw [ho] at hk
                cases hk
                rw [htk, put_at (b := A j) (by rw [hM.size, (asz j (by omega)).1]), ← htk, ← hv]
                exact (far (j + 1) t m (by omega) (Nat.le_refl _) (fun i oi hi _ hoi hti => by
                  have : i = j := unlike i j oi o t hoi ho hti htk
                  omega)).symm
              · rw [getD_set_ne false hkj] at hlk
                rw [put_ne (fun e => hkj (unlike j k o ok t ho hk e htk))]
                exact hM.done k ok t hk hlk htk
            · have hjt : o.dst ≠ some t := hno j o ho (by simp [hjl])
              rw [put_ne hjt]
              refine hM.left t (fun k ok hk hlk => hno k ok hk ?_)
              exact getD_set_true hlk
          unfold wpOp
          simp only [ho]
          refine step listed b w _ Q hag hM.len hjun' hmet hw (fun w' hw' => ih _ _ w' ?_ hM' (fun k hk => ?_) hw')
          · have := count_lt (p := fun k => !listed.getD k true) (q := fun k => !(listed.setIfInBounds j true).getD k true) (fun k hk => by
              by_cases hkj : j = k
              · subst hkj; simp [hjun]
              · rw [getD_set_ne true hkj] at hk; exact hk) (j := j) (by simp [hjun]) (by simp [hjl]) (List.mem_range.2 hjm)
            omega
          · by_cases hkj : j = k
            · omega
            · rw [getD_set_ne false hkj] at hk
              exact hin k hk
  refine wp_region_any hm (main ops.size _ a w.drew ?_ ?_ ?_ hS)
  · have := List.length_filter_le (fun k => !(Array.replicate ops.size false).getD k true) (List.range m)
    simp only [List.length_range] at this
    omega
  · refine ⟨rfl, rfl, by simp, fun y hy => ?_, fun k o t ho hk _ => ?_, fun t _ => rfl⟩
    · simp [Array.getElem?_replicate] at hy
      split at hy <;> simp at hy
    · simp [Array.getElem?_replicate] at hk
      split at hk <;> simp at hk
  · intro k hk
    simp [Array.getElem?_replicate] at hk
    split at hk <;> simp at hk
theorem walkedM_cons {n j : Nat} {Qf : Act → Prop} {o : Oper} {r : List Oper} {a a' : Act} (hg : GivesM P ops S n j o a a') (hd : a'.defers = a.defers) (hr : WalkedM P ops S n Qf r (j + 1) a') : WalkedM P ops S n Qf (o :: r) j a := ⟨a', hg, hd, hr⟩
theorem walkedM_nil {n j : Nat} {Qf : Act → Prop} {a : Act} (h : Qf a) : WalkedM P ops S n Qf [] j a := h
end
end Go.Proofs.Ytnmccihgiphmjaa
/- As StageM, with one allocation that may come anywhere: its pointer is not fixed. No function of the program stands here. -/
namespace Go.Proofs.Ytnmccihgiphmjaa
set_option linter.unusedVariables false
set_option linter.unusedSimpArgs false
open Go.RowKit
section
variable {P : Program} {ops : Array Oper} {Q : Exit → Act → World → Prop}
section
variable {S : Value → Array Bool → World → Prop}
end
end
end Go.Proofs.Ytnmccihgiphmjaa
/- As Free, with any number of allocations that may come anywhere: their pointers are not fixed. No function of the program stands here. -/
namespace Go.Proofs.Ytnmccihgiphmjaa
set_option linter.unusedVariables false
set_option linter.unusedSimpArgs false
open Go.RowKit
section
variable {P : Program} {ops : Array Oper} {Q : Exit → Act → World → Prop}
section
variable {S : (Nat → Value) → Array Bool → World → Prop}
end
end
end Go.Proofs.Ytnmccihgiphmjaa
/- A drawn statement with two stores into two blocks, in either order (a 'return' of two structs that are result variables). No function of the program stands here. -/
namespace Go.Proofs.Ytnmccihgiphmjaa
set_option linter.unusedVariables false
set_option linter.unusedSimpArgs false
open Go.RowKit
section
variable {J1 J2 b1 b2 : Nat} {o1 o2 : Obj} {W x : World} {l : Array Bool}
end
section
variable {P : Program} {w : World}
end
section
variable {J1 J2 : Nat} {W W1 W2 W12 x : World} {l : Array Bool}
end
end Go.Proofs.Ytnmccihgiphmjaa
/- A drawn statement 'x, y := call' with allocations for x and y that may come before or behind the call: what holds meanwhile. No function of the program stands here. -/
namespace Go.Proofs.Ytnmccihgiphmjaa
set_option linter.unusedVariables false
set_option linter.unusedSimpArgs false
open Go.RowKit
/-- An allocation's number, its store's, the block's first cells, those behind the store, their type. -/
structure FrE where
  A : Nat
  B : Nat
  Z : Array Value
  Q : Array Value
  t : TypeId
section
variable {N J : Nat} {x0 x y : World} {M0 M1 : World → Prop} {G : Nat → Prop} {L : List FrE} {v : Nat → Value} {l : Array Bool}
end
section
variable {N J B b : Nat} {Z Q : Array Value} {t : TypeId} {x0 x y : World} {M0 M1 : World → Prop} {G G0 : Nat → Prop} {L : List FrE} {v : Nat → Value} {l : Array Bool}
end
end Go.Proofs.Ytnmccihgiphmjaa
namespace Go.Proofs.Ytnmccihgiphmjaa
set_option linter.unusedVariables false
set_option linter.unusedSimpArgs false
open Go.RowKit
/-- A till operation i has come, then B till j has, then C. -/
def TwoCalls (i j : Nat) (A B C : World → Prop) (l : Array Bool) (x : World) : Prop :=
  (l.getD j false = true → C x) ∧ (l.getD j false = false → l.getD i false = true → B x) ∧ (l.getD i false = false → A x) ∧ (l.getD j false = true → l.getD i false = true)
section
variable {i j : Nat} {A B C : World → Prop} {l : Array Bool} {x : World}
theorem tc_other (k : Nat) (hi : k ≠ i) (hj : k ≠ j) (h : TwoCalls i j A B C l x) : TwoCalls i j A B C (l.setIfInBounds k true) x := by
  unfold TwoCalls at h ⊢
  rw [getD_set_ne false hi, getD_set_ne false hj]; exact h
theorem tc_start (n : Nat) (h : A x) : TwoCalls i j A B C (Array.replicate n false) x := by
  have e : ∀ k : Nat, (Array.replicate n false).getD k false = false := by intro k; simp [Array.getElem?_replicate]; split <;> rfl
  unfold TwoCalls
  rw [e, e]
  exact ⟨fun f => (by cases f), fun _ f => (by cases f), fun _ => h, fun f => (by cases f)⟩
theorem tc_any {P : World → Prop} (h : TwoCalls i j A B C l x) (hA : A x → P x) (hB : B x → P x) (hC : C x → P x) : P x := by
  obtain ⟨h1, h2, h3, _⟩ := h
  cases e : l.getD j false with
  | true => exact hC (h1 e)
  | false =>
    cases e2 : l.getD i false with
    | true => exact hB (h2 e e2)
    | false => exact hA (h3 e2)
theorem tc_first (hij : i ≠ j) (hl : i < l.size) (hn : l.getD i false = false) (h : TwoCalls i j A B C l x) : A x ∧ ∀ y, B y → TwoCalls i j A B C (l.setIfInBounds i true) y := by
  obtain ⟨h1, h2, h3, h4⟩ := h
  have nj : l.getD j false = false := by
    cases e : l.getD j false with
    | false => rfl
    | true => have := h4 e; rw [hn] at this; cases this
  have si : (l.setIfInBounds i true).getD i false = true := by simp [hl]
  refine ⟨h3 hn, fun y hy => ?_⟩
  unfold TwoCalls
  rw [si, getD_set_ne false hij, nj]
  exact ⟨fun f => (by cases f), fun _ _ => hy, fun f => (by cases f), fun _ => rfl⟩
theorem tc_second (hij : i ≠ j) (hl : j < l.size) (hi : l.getD i false = true) (hn : l.getD j false = false) (h : TwoCalls i j A B C l x) : B x ∧ ∀ y, C y → TwoCalls i j A B C (l.setIfInBounds j true) y := by
  obtain ⟨h1, h2, h3, h4⟩ := h
  have sj : (l.setIfInBounds j true).getD j false = true := by simp [hl]
  refine ⟨h2 hn hi, fun y hy => ?_⟩
  unfold TwoCalls
  rw [sj, getD_set_ne false hij.symm, hi]
  exact ⟨fun _ => hy, fun f => (by cases f), fun f => (by cases f), fun _ => rfl⟩
theorem tc_end (hj : l.getD j false = true) (h : TwoCalls i j A B C l x) : C x := h.1 hj
end
end Go.Proofs.Ytnmccihgiphmjaa
namespace Go.Proofs.Ytnmccihgiphmjaa
set_option linter.unusedVariables false
set_option linter.unusedSimpArgs false
open Go.RowKit
/-- A till operation i has come, then C. -/
def OneCall (i : Nat) (A C : World → Prop) (l : Array Bool) (x : World) : Prop := (l.getD i false = true → C x) ∧ (l.getD i false = false → A x)
section
variable {i : Nat} {A C : World → Prop} {l : Array Bool} {x : World}
theorem oc_other (k : Nat) (hi : k ≠ i) (h : OneCall i A C l x) : OneCall i A C (l.setIfInBounds k true) x := by
  unfold OneCall at h ⊢
  rw [getD_set_ne false hi]; exact h
theorem oc_start (n : Nat) (h : A x) : OneCall i A C (Array.replicate n false) x := by
  have e : (Array.replicate n false).getD i false = false := by simp [Array.getElem?_replicate]; split <;> rfl
  unfold OneCall
  rw [e]
  exact ⟨fun f => (by cases f), fun _ => h⟩
theorem oc_any {P : World → Prop} (h : OneCall i A C l x) (hA : A x → P x) (hC : C x → P x) : P x := by
  cases e : l.getD i false with
  | true => exact hC (h.1 e)
  | false => exact hA (h.2 e)
theorem oc_call (hl : i < l.size) (hn : l.getD i false = false) (h : OneCall i A C l x) : A x ∧ ∀ y, C y → OneCall i A C (l.setIfInBounds i true) y := by
  refine ⟨h.2 hn, fun y hy => ?_⟩
  have si : (l.setIfInBounds i true).getD i false = true := by simp [hl]
  unfold OneCall
  rw [si]
  exact ⟨fun _ => hy, fun f => (by cases f)⟩
theorem oc_end (hi : l.getD i false = true) (h : OneCall i A C l x) : C x := h.1 hi
end
/-- Behind the call that lays a frame in. -/
structure PutP (w y1 : World) (p first en free : Nat) (ad : Nat → Option Addr) (cp : Nat → Nat) (R : Nat → List Nat) (k : Nat) (a : Option Addr) (c : Nat) (L : List Nat) (x : World) : Prop where
  blk : x.heap[p]? = some (.cells (budCells first en ad cp R free).toArray 95)
  cell : x.cell? ⟨p, 2 + k, none⟩ = some (.slice (ad k) (R k).length (cp k))
  only : Only (fun z => ad k = some ⟨z, 0, none⟩) w x
  row : RowI x a c L
structure CutP (w y1 : World) (p first en free : Nat) (ad : Nat → Option Addr) (cp : Nat → Nat) (R : Nat → List Nat) (k : Nat) (L : List Nat) (x : World) : Prop where
  blk : x.heap[p]? = some (.cells (budCells first en ad cp R free).toArray 95)
  cell : x.cell? ⟨p, 2 + k, none⟩ = some (.slice (ad k) (R k).length (cp k))
  only : Only (fun z => ad k = some ⟨z, 0, none⟩) w x
  row : RowI x (ad k) (cp k) L
section
variable {O : Nat → Prop} {w x y : World} {p first en free : Nat} {ad : Nat → Option Addr} {cp : Nat → Nat} {R : Nat → List Nat}
set_option maxHeartbeats 8000000 in
set_option maxRecDepth 100000 in
theorem budPut_calls (h : BudW O w p first en free ad cp R) (k : Nat) (hk : k < 10) (f : Nat) (hs : (R k).Pairwise (· < ·)) (hlen : (R k).length ≤ 2097152) :
    Calls Try.prog 52 #[.pointer (some ⟨p, 0, none⟩), .int .i64 (f : Nat), .int .i64 (k : Nat)] w (fun e y => e = .returned (.tuple #[]) ∧
      ∃ O', BudA p first en free (upd R k ((R k).take ((R k).countP (fun y => decide (y < f))) ++ f :: (R k).drop ((R k).countP (fun y => decide (y < f))))) O' y ∧ (∀ b, O' b → O b ∨ w.heap.size ≤ b) ∧ Only O w y) := by
  have hcell := bud_cell h hk
  have hsr := sl_search (h.rows k hk) hs hlen f
  have hik : (R k).countP (fun y => decide (y < f)) ≤ (R k).length := List.countP_le_length
  obtain ⟨i, hi⟩ : ∃ i, (R k).countP (fun y => decide (y < f)) = i := ⟨_, rfl⟩
  rw [hi] at hsr hik ⊢
  have hki : (k : Int) < 10 := by omega
  have H := Lib.hid h
  have HI0 := Lib.hid (And.intro hik hlen)
  clear h hs hlen hi hik
  go_enter Try.func52, Try.ntmps52
  go_wp2_with fail
  (with_reducible refine hsr.mono ?_)
  rintro e y1 ⟨rfl, ho1⟩
  have hB1 := budW_old H.out (old_drew ho1)
  have hc1 := bud_cell hB1 hk
  obtain ⟨z, hz⟩ : ∃ z, y1.drew.alloc (.cells #[.int .i64 (f : Nat)] 3) = z := ⟨_, rfl⟩
  have hoz : Old y1.drew z := by rw [← hz]; exact old_alloc (old_refl _) _
  have hBz := budW_old hB1 hoz
  obtain ⟨a', c', hins, hfr⟩ := sl_insert (hBz.rows k hk) i HI0.out.1 f y1.drew.heap.size (by rw [← hz]; exact new_block _ _) (fun b off e => by have := hB1.lt b (hB1.rown k b off hk e).1; omega) HI0.out.2
  obtain ⟨L', hL'⟩ : ∃ L', (R k).take i ++ f :: (R k).drop i = L' := ⟨_, rfl⟩
  have hLl : L'.length = (R k).length + 1 := by rw [← hL', List.length_append, List.length_take, List.length_cons, List.length_drop]; have := HI0.out.1; omega
  rw [hL'] at hins
  have HZ := Lib.hid hz
  have HC0 : Hid (∀ x, Old y1 x → x.cell? ⟨p, 2 + k, none⟩ = some (.slice (ad k) (R k).length (cp k))) := Lib.hid fun x hx => bud_cell (budW_old H.out (old_then ho1 hx)) hk
  have how : Only (fun b => ad k = some ⟨b, 0, none⟩) w z := ((Only.of_below (old_then (old_drew ho1) hoz)).mono fun _ _ f => f.elim)
  have HI : Hid (Calls Try.prog 60 #[.slice (ad k) (R k).length (cp k), .int .i64 (i : Nat), .slice (some ⟨y1.heap.size, 0, none⟩) 1 1] z (fun e x => e = .returned (.slice a' ((R k).length + 1) c') ∧ PutP w y1 p first en free ad cp R k a' c' L' x)) := Lib.hid (by
    refine hins.mono ?_
    rintro e x ⟨rfl, hr, ho⟩
    have hpx := keep_only ho (fun e => (hBz.rown k p 0 hk e).2 rfl) hBz.hp
    refine ⟨rfl, hpx, ?_, how.trans ho, hr⟩
    rw [cell_of hpx, List.getElem?_toArray, budCells_row hk])
  have HF : Hid (∀ z off, a' = some ⟨z, off, none⟩ → ad k = some ⟨z, 0, none⟩ ∨ w.heap.size ≤ z) := Lib.hid fun z off e => (hfr z off e).imp id fun h => by have := (old_then (old_drew ho1) hoz).size; omega
  have HL := Lib.hid (And.intro hL' hLl)
  clear hsr hB1 hoz hBz hins hfr hz how ho1 hL' hLl HI0
  go_wp2_with fail
  refine wp_region_met (S := TwoCalls 10 11 (fun x => x = y1.drew) (fun x => x = z) (fun x => PutP w y1 p first en free ad cp R k a' c' L' x)) 14 (by kernel_rfl) (by kernel_rfl) (by kernel_rfl) (by decide) (tc_start _ rfl) ?_
  apply walkedM_cons
  · intro l9 wS hz hn hm hS
    have HD := Lib.hid (tc_other 0 (by decide) (by decide) hS)
    clear hS hz hn hm
    go_wp2
    exact ⟨rfl, rfl, HD.out⟩
  · rfl
  (try simp only [Act.put, List.setIfInBounds_toArray, List.set_cons_succ, List.set_cons_zero])
  apply walkedM_cons
  · intro l9 wS hz hn hm hS
    have HD := Lib.hid (tc_other 1 (by decide) (by decide) hS)
    clear hS hz hn hm
    go_wp2
    exact ⟨rfl, rfl, HD.out⟩
  · rfl
  (try simp only [Act.put, List.setIfInBounds_toArray, List.set_cons_succ, List.set_cons_zero])
  apply walkedM_cons
  · intro l9 wS hz hn hm hS
    have HD := Lib.hid (tc_other 2 (by decide) (by decide) hS)
    clear hS hz hn hm
    go_wp2
    exact ⟨rfl, rfl, HD.out⟩
  · rfl
  (try simp only [Act.put, List.setIfInBounds_toArray, List.set_cons_succ, List.set_cons_zero])
  apply walkedM_cons
  · intro l9 wS hz hn hm hS
    have HD := Lib.hid (tc_other 3 (by decide) (by decide) hS)
    clear hS hz hn hm
    go_wp2
    exact ⟨rfl, rfl, HD.out⟩
  · rfl
  (try simp only [Act.put, List.setIfInBounds_toArray, List.set_cons_succ, List.set_cons_zero])
  apply walkedM_cons
  · intro l9 wS hz hn hm hS
    have HD := Lib.hid (tc_other 4 (by decide) (by decide) hS)
    clear hS hz hn hm
    go_wp2
    exact ⟨rfl, rfl, HD.out⟩
  · rfl
  (try simp only [Act.put, List.setIfInBounds_toArray, List.set_cons_succ, List.set_cons_zero])
  apply walkedM_cons
  · intro l9 wS hz hn hm hS
    have HD := Lib.hid (tc_other 5 (by decide) (by decide) hS)
    clear hS hz hn hm
    go_wp2
    exact ⟨rfl, rfl, HD.out⟩
  · rfl
  (try simp only [Act.put, List.setIfInBounds_toArray, List.set_cons_succ, List.set_cons_zero])
  apply walkedM_cons
  · intro l9 wS hz hn hm hS
    have HD := Lib.hid (tc_other 6 (by decide) (by decide) hS)
    clear hS hz hn hm
    go_wp2
    exact ⟨rfl, rfl, HD.out⟩
  · rfl
  (try simp only [Act.put, List.setIfInBounds_toArray, List.set_cons_succ, List.set_cons_zero])
  apply walkedM_cons
  · intro l9 wS hz hn hm hS
    have HD := Lib.hid (tc_other 7 (by decide) (by decide) hS)
    have ck := tc_any (P := fun x => x.cell? ⟨p, 2 + k, none⟩ = some (.slice (ad k) (R k).length (cp k))) hS (fun h => HC0.out _ (by rw [h]; exact old_drew (old_refl _))) (fun h => HC0.out _ (by rw [h, ← HZ.out]; exact old_alloc (old_drew (old_refl _)) _)) (fun h => h.cell)
    clear hS hz hn hm
    go_wp2
    exact ⟨rfl, rfl, HD.out⟩
  · rfl
  (try simp only [Act.put, List.setIfInBounds_toArray, List.set_cons_succ, List.set_cons_zero])
  apply walkedM_cons
  · intro l9 wS hz hn hm hS
    have HD := Lib.hid (tc_other 8 (by decide) (by decide) hS)
    clear hS hz hn hm
    go_wp2
    exact ⟨rfl, rfl, HD.out⟩
  · rfl
  (try simp only [Act.put, List.setIfInBounds_toArray, List.set_cons_succ, List.set_cons_zero])
  apply walkedM_cons
  · intro l9 wS hz hn hm hS
    have HD := Lib.hid (tc_other 9 (by decide) (by decide) hS)
    clear hS hz hn hm
    go_wp2
    exact ⟨rfl, rfl, HD.out⟩
  · rfl
  (try simp only [Act.put, List.setIfInBounds_toArray, List.set_cons_succ, List.set_cons_zero])
  apply walkedM_cons
  · intro l9 wS hz hn hm hS
    obtain ⟨rfl, hnext⟩ := tc_first (by decide) (by rw [hz]; decide) hn hS
    have HN := Lib.hid hnext
    have HZ2 := HZ.out
    clear hS hnext hz hn hm
    go_wp2
    exact ⟨rfl, rfl, HN.out _ rfl⟩
  · rfl
  (try simp only [Act.put, List.setIfInBounds_toArray, List.set_cons_succ, List.set_cons_zero])
  apply walkedM_cons
  · intro l9 wS hz hn hm hS
    obtain ⟨rfl, hnext⟩ := tc_second (by decide) (by rw [hz]; decide) (hm _ rfl ⟨10, .data⟩ (by simp) rfl) hn hS
    have HN := Lib.hid hnext
    have hc := HI.out
    clear hS hnext hz hn hm
    go_wp2_with fail
    (with_reducible refine hc.mono ?_)
    rintro e y9 ⟨rfl, hB'⟩
    have HD := Lib.hid (HN.out _ hB')
    clear hc hB' HN
    go_wp2
    exact ⟨rfl, rfl, HD.out⟩
  · rfl
  (try simp only [Act.put, List.setIfInBounds_toArray, List.set_cons_succ, List.set_cons_zero])
  apply walkedM_cons
  · intro l9 wS hz hn hm hS
    have HD := Lib.hid (tc_other 12 (by decide) (by decide) hS)
    clear hS hz hn hm
    go_wp2
    exact ⟨rfl, rfl, HD.out⟩
  · rfl
  (try simp only [Act.put, List.setIfInBounds_toArray, List.set_cons_succ, List.set_cons_zero])
  apply walkedM_cons
  · intro l9 wS hz hn hm hS
    have HD := Lib.hid (tc_other 13 (by decide) (by decide) hS)
    clear hS hz hn hm
    go_wp2
    exact ⟨rfl, rfl, HD.out⟩
  · rfl
  (try simp only [Act.put, List.setIfInBounds_toArray, List.set_cons_succ, List.set_cons_zero])
  apply walkedM_nil
  intro l9 z9 hz hall hS
  have HE := Lib.hid (tc_end (hall 11 (by decide)) hS)
  clear hS hall hz l9
  show wpList _ _ _ [_, _] _ _
  obtain ⟨O', q1, q2, q3⟩ := bud_set H.out hk HE.out.blk HE.out.only HE.out.row HF.out
  rw [HL.out.2] at q1 q3
  have HQ : Hid (∃ O', BudA p first en free (upd R k L') O' (z9.setCell ⟨p, 2 + k, none⟩ (.slice a' ((R k).length + 1) c')) ∧ (∀ b, O' b → O b ∨ w.heap.size ≤ b) ∧ Only O w (z9.setCell ⟨p, 2 + k, none⟩ (.slice a' ((R k).length + 1) c'))) := Lib.hid ⟨O', ⟨_, _, q1⟩, q2, q3⟩
  have hc9 := HE.out.cell
  have hf9 := frozen_of HE.out.blk (2 + k)
  clear q1 q2 q3 hcell hc1 HC0 HI HF HE
  go_wp2
  first | (refine bodyPost_end (v := .tuple #[]) (by first | rfl | kernel_rfl) rfl ?_) | (refine bodyPost_ret (v := .tuple #[]) (by first | rfl | kernel_rfl) rfl ?_)
  rw [HL.out.1]
  exact ⟨rfl, HQ.out⟩
set_option maxHeartbeats 8000000 in
set_option maxRecDepth 100000 in
theorem budCut_calls (h : BudW O w p first en free ad cp R) (k : Nat) (hk : k < 10) (f : Nat) (hs : (R k).Pairwise (· < ·)) (hlen : (R k).length ≤ 2097152) {l m : List Nat} (hp : PartL (R k) (l ++ m) f l m) :
    Calls Try.prog 51 #[.pointer (some ⟨p, 0, none⟩), .int .i64 (f : Nat), .int .i64 (k : Nat)] w (fun e y => e = .returned (.bool true) ∧
      ∃ O', BudA p first en free (upd R k (l ++ m)) O' y ∧ (∀ b, O' b → O b ∨ w.heap.size ≤ b) ∧ Only O w y) := by
  have hcell := bud_cell h hk
  have hsr := sl_search (h.rows k hk) hs hlen f
  rw [hp.count.1, decide_eq_true hp.mem.1] at hsr
  have hll : (R k).length = l.length + 1 + m.length := by rw [hp.has, List.length_append, List.length_cons]; omega
  have hLL : (l ++ m).length = (R k).length - 1 := by rw [List.length_append]; omega
  have hcut : (R k).take l.length ++ (R k).drop (l.length + 1) = l ++ m := by rw [hp.has]; simp
  have hki : (k : Int) < 10 := by omega
  have hli : (l.length : Int) ≤ 2097152 := by omega
  obtain ⟨i, hi⟩ : ∃ i, l.length = i := ⟨_, rfl⟩
  rw [hi] at hsr hcut hll hli
  have H := Lib.hid h
  obtain ⟨L', hL'⟩ : ∃ L', l ++ m = L' := ⟨_, rfl⟩
  rw [hL'] at hcut hLL ⊢
  have HL := Lib.hid (And.intro hcut (And.intro hLL hll))
  clear h hs hlen hp hcut hLL hll hi hL'
  go_enter Try.func51, Try.ntmps51
  go_wp2_with fail
  (with_reducible refine hsr.mono ?_)
  rintro e y1 ⟨rfl, ho1⟩
  have hB1 := budW_old H.out (old_drew ho1)
  have hc1 := bud_cell hB1 hk
  have hdel := sl_delete (hB1.rows k hk) i (by have := HL.out.2.2; omega)
  rw [HL.out.1] at hdel
  have HC0 : Hid (∀ x, Old y1 x → x.cell? ⟨p, 2 + k, none⟩ = some (.slice (ad k) (R k).length (cp k))) := Lib.hid fun x hx => bud_cell (budW_old H.out (old_then ho1 hx)) hk
  have how : Only (fun b => ad k = some ⟨b, 0, none⟩) w y1.drew := ((Only.of_below (old_drew ho1)).mono fun _ _ f => f.elim)
  have HI : Hid (Calls Try.prog 59 #[.slice (ad k) (R k).length (cp k), .int .i64 (i : Nat), .int .i64 ((i : Int) + 1)] y1.drew (fun e x => e = .returned (.slice (ad k) ((R k).length - 1) (cp k)) ∧ CutP w y1 p first en free ad cp R k L' x)) := Lib.hid (by
    refine hdel.mono ?_
    rintro e x ⟨rfl, hr, ho⟩
    have hpx := keep_only ho (fun e => (hB1.rown k p 0 hk e).2 rfl) hB1.hp
    refine ⟨rfl, hpx, ?_, how.trans ho, hr⟩
    rw [cell_of hpx, List.getElem?_toArray, budCells_row hk])
  clear hsr hB1 hdel how ho1
  go_wp2_with fail
  refine wp_region_met (S := OneCall 11 (fun x => x = y1.drew) (fun x => CutP w y1 p first en free ad cp R k L' x)) 14 (by kernel_rfl) (by kernel_rfl) (by kernel_rfl) (by decide) (oc_start _ rfl) ?_
  apply walkedM_cons
  · intro l9 wS hz hn hm hS
    have HD := Lib.hid (oc_other 0 (by decide) hS)
    clear hS hz hn hm
    go_wp2
    exact ⟨rfl, rfl, HD.out⟩
  · rfl
  (try simp only [Act.put, List.setIfInBounds_toArray, List.set_cons_succ, List.set_cons_zero])
  apply walkedM_cons
  · intro l9 wS hz hn hm hS
    have HD := Lib.hid (oc_other 1 (by decide) hS)
    clear hS hz hn hm
    go_wp2
    exact ⟨rfl, rfl, HD.out⟩
  · rfl
  (try simp only [Act.put, List.setIfInBounds_toArray, List.set_cons_succ, List.set_cons_zero])
  apply walkedM_cons
  · intro l9 wS hz hn hm hS
    have HD := Lib.hid (oc_other 2 (by decide) hS)
    clear hS hz hn hm
    go_wp2
    exact ⟨rfl, rfl, HD.out⟩
  · rfl
  (try simp only [Act.put, List.setIfInBounds_toArray, List.set_cons_succ, List.set_cons_zero])
  apply walkedM_cons
  · intro l9 wS hz hn hm hS
    have HD := Lib.hid (oc_other 3 (by decide) hS)
    clear hS hz hn hm
    go_wp2
    exact ⟨rfl, rfl, HD.out⟩
  · rfl
  (try simp only [Act.put, List.setIfInBounds_toArray, List.set_cons_succ, List.set_cons_zero])
  apply walkedM_cons
  · intro l9 wS hz hn hm hS
    have HD := Lib.hid (oc_other 4 (by decide) hS)
    clear hS hz hn hm
    go_wp2
    exact ⟨rfl, rfl, HD.out⟩
  · rfl
  (try simp only [Act.put, List.setIfInBounds_toArray, List.set_cons_succ, List.set_cons_zero])
  apply walkedM_cons
  · intro l9 wS hz hn hm hS
    have HD := Lib.hid (oc_other 5 (by decide) hS)
    clear hS hz hn hm
    go_wp2
    exact ⟨rfl, rfl, HD.out⟩
  · rfl
  (try simp only [Act.put, List.setIfInBounds_toArray, List.set_cons_succ, List.set_cons_zero])
  apply walkedM_cons
  · intro l9 wS hz hn hm hS
    have HD := Lib.hid (oc_other 6 (by decide) hS)
    clear hS hz hn hm
    go_wp2
    exact ⟨rfl, rfl, HD.out⟩
  · rfl
  (try simp only [Act.put, List.setIfInBounds_toArray, List.set_cons_succ, List.set_cons_zero])
  apply walkedM_cons
  · intro l9 wS hz hn hm hS
    have HD := Lib.hid (oc_other 7 (by decide) hS)
    have ck := oc_any (P := fun x => x.cell? ⟨p, 2 + k, none⟩ = some (.slice (ad k) (R k).length (cp k))) hS (fun h => HC0.out _ (by rw [h]; exact old_drew (old_refl _))) (fun h => h.cell)
    clear hS hz hn hm
    go_wp2
    exact ⟨rfl, rfl, HD.out⟩
  · rfl
  (try simp only [Act.put, List.setIfInBounds_toArray, List.set_cons_succ, List.set_cons_zero])
  apply walkedM_cons
  · intro l9 wS hz hn hm hS
    have HD := Lib.hid (oc_other 8 (by decide) hS)
    clear hS hz hn hm
    go_wp2
    exact ⟨rfl, rfl, HD.out⟩
  · rfl
  (try simp only [Act.put, List.setIfInBounds_toArray, List.set_cons_succ, List.set_cons_zero])
  apply walkedM_cons
  · intro l9 wS hz hn hm hS
    have HD := Lib.hid (oc_other 9 (by decide) hS)
    clear hS hz hn hm
    go_wp2
    exact ⟨rfl, rfl, HD.out⟩
  · rfl
  (try simp only [Act.put, List.setIfInBounds_toArray, List.set_cons_succ, List.set_cons_zero])
  apply walkedM_cons
  · intro l9 wS hz hn hm hS
    have HD := Lib.hid (oc_other 10 (by decide) hS)
    clear hS hz hn hm
    go_wp2
    exact ⟨rfl, rfl, HD.out⟩
  · rfl
  (try simp only [Act.put, List.setIfInBounds_toArray, List.set_cons_succ, List.set_cons_zero])
  apply walkedM_cons
  · intro l9 wS hz hn hm hS
    obtain ⟨rfl, hnext⟩ := oc_call (by rw [hz]; decide) hn hS
    have HN := Lib.hid hnext
    have hc := HI.out
    clear hS hnext hz hn hm
    go_wp2_with fail
    (with_reducible refine hc.mono ?_)
    rintro e y9 ⟨rfl, hB'⟩
    have HD := Lib.hid (HN.out _ hB')
    clear hc hB' HN
    go_wp2
    exact ⟨rfl, rfl, HD.out⟩
  · rfl
  (try simp only [Act.put, List.setIfInBounds_toArray, List.set_cons_succ, List.set_cons_zero])
  apply walkedM_cons
  · intro l9 wS hz hn hm hS
    have HD := Lib.hid (oc_other 12 (by decide) hS)
    clear hS hz hn hm
    go_wp2
    exact ⟨rfl, rfl, HD.out⟩
  · rfl
  (try simp only [Act.put, List.setIfInBounds_toArray, List.set_cons_succ, List.set_cons_zero])
  apply walkedM_cons
  · intro l9 wS hz hn hm hS
    have HD := Lib.hid (oc_other 13 (by decide) hS)
    clear hS hz hn hm
    go_wp2
    exact ⟨rfl, rfl, HD.out⟩
  · rfl
  (try simp only [Act.put, List.setIfInBounds_toArray, List.set_cons_succ, List.set_cons_zero])
  apply walkedM_nil
  intro l9 z9 hz hall hS
  have HE := Lib.hid (oc_end (hall 11 (by decide)) hS)
  clear hS hall hz l9
  show wpList _ _ _ [_, _] _ _
  obtain ⟨O', q1, q2, q3⟩ := bud_set H.out hk HE.out.blk HE.out.only HE.out.row (fun z off e => .inl (by
    rcases rowI_cases HE.out.row with ⟨e0, _⟩ | ⟨g, cur, e0, _⟩
    · rw [e0] at e; cases e
    · rw [e0] at e ⊢; cases e; rfl))
  rw [HL.out.2.1] at q1 q3
  have HQ : Hid (∃ O', BudA p first en free (upd R k L') O' (z9.setCell ⟨p, 2 + k, none⟩ (.slice (ad k) ((R k).length - 1) (cp k))) ∧ (∀ b, O' b → O b ∨ w.heap.size ≤ b) ∧ Only O w (z9.setCell ⟨p, 2 + k, none⟩ (.slice (ad k) ((R k).length - 1) (cp k)))) := Lib.hid ⟨O', ⟨_, _, q1⟩, q2, q3⟩
  have hc9 := HE.out.cell
  have hf9 := frozen_of HE.out.blk (2 + k)
  clear q1 q2 q3 hcell hc1 HC0 HI HE
  go_wp2
  go_ret
  exact ⟨rfl, HQ.out⟩
set_option maxHeartbeats 8000000 in
set_option maxRecDepth 100000 in
theorem budCut_none (h : BudW O w p first en free ad cp R) (k : Nat) (hk : k < 10) (f : Nat) (hs : (R k).Pairwise (· < ·)) (hlen : (R k).length ≤ 2097152) (hf : f ∉ R k) :
    Calls Try.prog 51 #[.pointer (some ⟨p, 0, none⟩), .int .i64 (f : Nat), .int .i64 (k : Nat)] w (RetB w (.bool false)) := by
  have hcell := bud_cell h hk
  have hsr := sl_search (h.rows k hk) hs hlen f
  rw [decide_eq_false hf] at hsr
  have hki : (k : Int) < 10 := by omega
  clear h hs hlen hf
  generalize (R k).countP (fun y => decide (y < f)) = i at *
  go_enter Try.func51, Try.ntmps51
  go_wp2_with fail
  (with_reducible refine hsr.mono ?_)
  rintro e y1 ⟨rfl, ho1⟩
  go_wp2
  go_ret
  exact ⟨rfl, ho1⟩
end
end Go.Proofs.Ytnmccihgiphmjaa
namespace Go.Proofs.Ytnmccihgiphmjaa
set_option linter.unusedVariables false
set_option linter.unusedSimpArgs false
open Go.RowKit
/-- The bits of w that m lacks. -/
def lessN (w m : Nat) : Nat := w ^^^ (w &&& m)
theorem lessN_bit (w m i : Nat) : (lessN w m).testBit i = (w.testBit i && !m.testBit i) := by
  unfold lessN
  rw [Nat.testBit_xor, Nat.testBit_and]
  cases w.testBit i <;> cases m.testBit i <;> rfl
end Go.Proofs.Ytnmccihgiphmjaa
namespace Go.Proofs.Ytnmccihgiphmjaa
set_option linter.unusedVariables false
set_option linter.unusedSimpArgs false
open Go.RowKit
theorem i64_small (n : Nat) (h : n < 9223372036854775808) : IntKind.i64.wrap (n : Int) = (n : Int) := by rw [IntKind.wrap_i64]; omega
theorem of_i64 (a : Nat) (ha : a < 9223372036854775808) : (BitVec.ofInt 64 (a : Int)).toNat = a := by
  rw [BitVec.ofInt_natCast, BitVec.toNat_ofNat]; exact Nat.mod_eq_of_lt (by omega)
theorem lessN_lt2 (w m n : Nat) (hw : w < 2 ^ n) : lessN w m < 2 ^ n := by
  refine Nat.lt_pow_two_of_testBit _ fun i hi => ?_
  rw [lessN_bit, Nat.testBit_lt_two_pow (Nat.lt_of_lt_of_le hw (Nat.pow_le_pow_right (by decide) hi))]
  rfl
theorem bits_andNot_i64 (a b : Nat) (ha : a < 2097152) (hb : b < 2097152) : bits .andNot .i64 (a : Int) (b : Int) = ((lessN a b : Nat) : Int) := by
  have hx : lessN a b < 2 ^ 21 := lessN_lt2 a b 21 (by omega)
  have h1 := of_i64 a (by omega)
  have h2 := of_i64 b (by omega)
  have h3 : (BitVec.ofInt 64 (a : Int) &&& ~~~ BitVec.ofInt 64 (b : Int)).toNat = lessN a b := by
    refine Nat.eq_of_testBit_eq fun i => ?_
    rw [lessN_bit, BitVec.testBit_toNat, BitVec.getLsbD_and, BitVec.getLsbD_not, ← BitVec.testBit_toNat, ← BitVec.testBit_toNat, h1, h2]
    by_cases hi : i < 64
    · simp [hi]
    · have ea : a.testBit i = false := Nat.testBit_lt_two_pow (Nat.lt_of_lt_of_le (show a < 2 ^ 64 by omega) (Nat.pow_le_pow_right (by decide) (by omega)))
      rw [ea]
      simp [hi]
  show IntKind.i64.wrap ((BitVec.ofInt 64 (a : Int) &&& ~~~ BitVec.ofInt 64 (b : Int)).toNat : Int) = _
  rw [h3]
  exact i64_small _ (by omega)
theorem bits_xor_i64 (a b : Nat) (ha : a < 2097152) (hb : b < 2097152) : bits .xor .i64 (a : Int) (b : Int) = ((a ^^^ b : Nat) : Int) := by
  have hx : a ^^^ b < 2 ^ 21 := Nat.xor_lt_two_pow (by omega) (by omega)
  show IntKind.i64.wrap ((BitVec.ofInt 64 (a : Int) ^^^ BitVec.ofInt 64 (b : Int)).toNat : Int) = _
  rw [BitVec.toNat_xor, of_i64 a (by omega), of_i64 b (by omega)]
  exact i64_small _ (by omega)
theorem lessN_mask (f k : Nat) : lessN f (2 ^ k - 1) = f / 2 ^ k * 2 ^ k := by
  refine Nat.eq_of_testBit_eq fun i => ?_
  rw [lessN_bit, Nat.testBit_two_pow_sub_one, Nat.testBit_mul_two_pow, Nat.testBit_div_two_pow]
  by_cases h : k ≤ i
  · rw [decide_eq_false (by omega), decide_eq_true h, show i - k + k = i by omega]; simp
  · rw [decide_eq_true (by omega), decide_eq_false h]; simp
theorem bud_bit (b j : Nat) : (budN b).testBit j = if j = 0 then !b.testBit 0 else b.testBit j := by
  cases j with
  | zero =>
    rw [if_pos rfl, Nat.testBit_zero, Nat.testBit_zero]
    unfold budN
    rcases Nat.mod_two_eq_zero_or_one b with h | h
    · rw [if_pos h, show (b + 1) % 2 = 1 by omega, h]; rfl
    · rw [if_neg (by omega), show (b - 1) % 2 = 0 by omega, h]; rfl
  | succ j =>
    rw [if_neg (by omega), Nat.testBit_succ, Nat.testBit_succ, budN_half]
theorem bud_xor (b k : Nat) : (b * 2 ^ k) ^^^ 2 ^ k = budN b * 2 ^ k := by
  refine Nat.eq_of_testBit_eq fun i => ?_
  rw [Nat.testBit_xor, Nat.testBit_mul_two_pow, Nat.testBit_mul_two_pow, Nat.testBit_two_pow, bud_bit]
  by_cases h : k ≤ i
  · by_cases h2 : i = k
    · subst h2; simp
    · rw [if_neg (by omega), decide_eq_false (show ¬ k = i by omega)]; simp
  · rw [decide_eq_false h, decide_eq_false (show ¬ k = i by omega)]; simp
theorem lessN_up (b k : Nat) : lessN (b * 2 ^ k) (2 ^ k) = b / 2 * 2 ^ (k + 1) := by
  refine Nat.eq_of_testBit_eq fun i => ?_
  rw [lessN_bit, Nat.testBit_mul_two_pow, Nat.testBit_mul_two_pow, Nat.testBit_two_pow]
  by_cases h : k ≤ i
  · by_cases h2 : i = k
    · subst h2; rw [decide_eq_false (show ¬ i + 1 ≤ i by omega)]; simp
    · rw [decide_eq_true h, decide_eq_false (show ¬ k = i by omega), decide_eq_true (show k + 1 ≤ i by omega), show i - k = (i - (k + 1)) + 1 by omega, Nat.testBit_succ]; simp
  · rw [decide_eq_false h, decide_eq_false (show ¬ k + 1 ≤ i by omega)]; simp
/-- The powers of the ten orders. -/
theorem pow_ten {k : Nat} (hk : k < 10) : ∃ T : Nat, 2 ^ k = T ∧ wrap64 ((2 : Int) ^ k) = (T : Int) ∧ 1 ≤ T ∧ T ≤ 512 := by
  have h : k = 0 ∨ k = 1 ∨ k = 2 ∨ k = 3 ∨ k = 4 ∨ k = 5 ∨ k = 6 ∨ k = 7 ∨ k = 8 ∨ k = 9 := by omega
  rcases h with rfl | rfl | rfl | rfl | rfl | rfl | rfl | rfl | rfl | rfl <;> exact ⟨_, rfl, IntWalk.wrap64_in _ (by decide), by decide, by decide⟩
end Go.Proofs.Ytnmccihgiphmjaa
namespace Go.Proofs.Ytnmccihgiphmjaa
set_option linter.unusedVariables false
set_option linter.unusedSimpArgs false
open Go.RowKit
section
variable {O : Nat → Prop} {w x y : World} {p first en free : Nat} {ad : Nat → Option Addr} {cp : Nat → Nat} {R : Nat → List Nat}
/-- The ten slices. -/
def tenS (ad : Nat → Option Addr) (cp : Nat → Nat) (R : Nat → List Nat) : List Value := (List.range 10).map (fun k => Value.slice (ad k) (R k).length (cp k))
theorem ten_cells (h : BudW O w p first en free ad cp R) : ∀ (c : Nat) (v : Value), (tenS ad cp R)[c]? = some v → w.cell? ⟨p, 2 + c, none⟩ = some v := by
  intro c v hv
  have hc : c < 10 := by have := (List.getElem?_eq_some_iff.1 hv).1; simpa [tenS] using this
  rw [bud_cell h hc]
  unfold tenS at hv
  rw [List.getElem?_map, List.getElem?_range hc] at hv
  exact hv
theorem run_index10 (w : World) (ad : Nat → Option Addr) (cp : Nat → Nat) (R : Nat → List Nat) {k : Nat} (hk : k < 10) : (Instr.index 93 (.agg (tenS ad cp R).toArray) (.int .i64 (k : Nat))).run Try.prog w = .ok (.slice (ad k) (R k).length (cp k)) w := by
  rcases ten_cases hk with rfl | rfl | rfl | rfl | rfl | rfl | rfl | rfl | rfl | rfl <;> kernel_rfl
set_option maxHeartbeats 8000000 in
set_option maxRecDepth 100000 in
theorem budHas_in (h : BudW O w p first en free ad cp R) (f : Nat) (hf : first ≤ f ∧ f < en) (hs : ∀ k, k < 10 → (R k).Pairwise (· < ·)) (hlen : ∀ k, k < 10 → (R k).length ≤ 2097152) :
    Calls Try.prog 50 #[.pointer (some ⟨p, 0, none⟩), .int .i64 (f : Nat)] w (RetB w (.bool (decide (∃ k, k ≤ 9 ∧ f / 2 ^ k * 2 ^ k ∈ R k)))) := by
  obtain ⟨b, hb⟩ : ∃ b, decide (∃ k, k ≤ 9 ∧ f / 2 ^ k * 2 ^ k ∈ R k) = b := ⟨_, rfl⟩
  rw [hb]
  have HBB := Lib.hid hb
  clear hb
  obtain ⟨c0, c1, -⟩ := bud_first h
  have hten := ten_cells h
  have e1 : ¬ (f : Int) < first := by omega
  have e2 : ¬ (en : Int) ≤ f := by omega
  have HT := Lib.hid hten
  clear hten
  go_enter Try.func50, Try.ntmps50
  go_wp2_with (refine wpList_load_at rfl 93 _ rfl p 2 rfl (tenS ad cp R) _ HT.out Try.underlying93 rfl (by kernel_rfl) ?_)
  have HB := Lib.hid h
  have HS := Lib.hid (And.intro hs hlen)
  have HF := Lib.hid (And.intro hf h.bnd)
  clear h hs hlen c0 c1 e1 e2 hf
  go_loopw [5, 6, 7, 8, 27] (fun _ _ _ _ s27 wx => ∃ k : Nat, k ≤ 10 ∧ s27 = .int .i64 (k : Nat) ∧ Old w wx ∧ ∀ j, j < k → f / 2 ^ j * 2 ^ j ∉ R j) (fun _ _ _ _ s27 _ => 10 - (intOf s27).toNat)
  case atStart => exact ⟨0, by omega, rfl, old_refl _, fun j hj => by omega⟩
  case round =>
    obtain ⟨k, hk, rfl, hO, hno⟩ := hrel
    by_cases hk10 : k = 10
    · subst hk10
      have hbf : b = false := by
        rw [← HBB.out]
        exact decide_eq_false (fun ⟨k, h1, h2⟩ => hno k (by omega) h2)
      subst hbf
      have HO := Lib.hid hO
      clear hno hO hk
      go_wp2
      go_ret
      exact ⟨rfl, HO.out⟩
    · have hlt : k < 10 := by omega
      have hlti : (k : Int) < 10 := by omega
      have hidx := run_index10 wr ad cp R hlt
      have hB := budW_old HB.out hO
      have hsr := sl_search (hB.rows k hlt) (HS.out.1 k hlt) (HS.out.2 k hlt) (f / 2 ^ k * 2 ^ k)
      obtain ⟨T, hT, hw2, hT1, hT2⟩ := pow_ten hlt
      have hmask := bits_andNot_i64 f (T - 1) (by have := HF.out; omega) (by omega)
      rw [← hT, lessN_mask, hT] at hmask
      rw [show ((T - 1 : Nat) : Int) = (T : Int) - 1 by omega] at hmask
      rw [hT] at hsr
      have HT2 := Lib.hid hT
      have HNo := Lib.hid hno
      have hT512 : (T : Int) ≤ 512 := by omega
      obtain ⟨m, hm⟩ : ∃ m, f / T * T = m := ⟨_, rfl⟩
      rw [hm] at hsr hmask
      have HM := Lib.hid hm
      obtain ⟨ix, hix⟩ : ∃ ix, (R k).countP (fun y => decide (y < m)) = ix := ⟨_, rfl⟩
      rw [hix] at hsr
      have HO := Lib.hid hO
      clear hno hB hO hk hk10 hT hix hm
      by_cases hin : m ∈ R k
      · rw [decide_eq_true hin] at hsr
        have hbt : b = true := by
          rw [← HBB.out]
          exact decide_eq_true ⟨k, by omega, by rw [HT2.out, HM.out]; exact hin⟩
        subst hbt
        clear hin
        go_wp2_with fail
        (with_reducible refine hsr.mono ?_)
        rintro e y1 ⟨rfl, ho1⟩
        have HO1 := Lib.hid (old_then HO.out ho1)
        clear hsr ho1
        go_wp2
        go_ret
        exact ⟨rfl, HO1.out⟩
      · rw [decide_eq_false hin] at hsr
        have HIN := Lib.hid hin
        clear hin
        go_wp2_with fail
        (with_reducible refine hsr.mono ?_)
        rintro e y1 ⟨rfl, ho1⟩
        have HO1 := Lib.hid (old_then HO.out ho1)
        clear hsr ho1
        go_wp2
        go_roundw
        case rel =>
          refine ⟨k + 1, by omega, by simp, HO1.out, fun j hj => ?_⟩
          by_cases hjk : j = k
          · rw [hjk, HT2.out, HM.out]; exact HIN.out
          · exact HNo.out j (by omega)
        case measure => (simp [intOf]) <;> omega
set_option maxHeartbeats 2000000 in
theorem budHas_out (h : BudW O w p first en free ad cp R) (f : Nat) (hf : f < first ∨ en ≤ f) :
    Calls Try.prog 50 #[.pointer (some ⟨p, 0, none⟩), .int .i64 (f : Nat)] w (RetB w (.bool false)) := by
  obtain ⟨c0, c1, -⟩ := bud_first h
  clear h
  by_cases h1 : f < first
  · have e1 : (f : Int) < first := by omega
    clear hf h1
    go_enter Try.func50, Try.ntmps50
    go_wp2
    go_ret
    exact ⟨rfl, old_refl _⟩
  · have e1 : ¬ (f : Int) < first := by omega
    have e2 : (en : Int) ≤ f := by omega
    clear hf h1
    go_enter Try.func50, Try.ntmps50
    go_wp2
    go_ret
    exact ⟨rfl, old_refl _⟩
end
end Go.Proofs.Ytnmccihgiphmjaa
namespace Go.Proofs.Ytnmccihgiphmjaa
set_option linter.unusedVariables false
set_option linter.unusedSimpArgs false
open Go.RowKit
/-- A jump to a label, else Q. -/
def toLabel (R : Nat → Act → World → Prop) (Q : Exit → Act → World → Prop) : Exit → Act → World → Prop
  | .goto l, a, w => R l a w
  | e, a, w => Q e a w
theorem wp_scope_labels {P : Program} {c : Code} {a : Act} {w : World} {Q : Exit → Act → World → Prop} (J : Nat → Nat → Act → World → Prop)
    (first : c.wp P (toLabel (fun l a w => ∃ k, J l k a w) Q) a w)
    (pass : ∀ l k a w, J l k a w → ∃ rest, findLabel c l = some rest ∧ rest.wp P (toLabel (fun l' a' w' => ∃ j, j < k ∧ J l' j a' w') Q) a w) : (Code.scope c).wp P Q a w := by
  intro b k cs
  have key : ∀ n l a w, J l n a w → ∃ rest, findLabel c l = some rest ∧ ∃ e a' w', Q e a' w' ∧ Arrives P (lone (b.at a (.code rest :: .inScope c :: k)) cs w) b k cs e a' w' := by
    intro n
    induction n using Nat.strongRecOn with
    | _ n ih =>
      intro l a w hJ
      obtain ⟨rest, hf, hw⟩ := pass l n a w hJ
      refine ⟨rest, hf, ?_⟩
      obtain ⟨e, a₁, w₁, hq, harr⟩ := hw b (.inScope c :: k) cs
      cases e with
      | normal => exact ⟨.normal, a₁, w₁, hq, Steps.trans harr (.one step_inScope)⟩
      | exit id => exact ⟨.exit id, a₁, w₁, hq, fun k' hk => harr k' (by simp [exitTo, hk])⟩
      | goto l' =>
        obtain ⟨j, hlt, hJ'⟩ := hq
        obtain ⟨rest', hf', e₂, a₂, w₂, hq₂, harr₂⟩ := ih j hlt l' a₁ w₁ hJ'
        have hg : gotoIn l' (.inScope c :: k) = some (.code rest' :: .inScope c :: k) := by simp [gotoIn, hf']
        exact ⟨e₂, a₂, w₂, hq₂, .of_steps (harr _ hg) harr₂⟩
      | ret => exact ⟨_, a₁, w₁, hq, harr⟩
      | panic ch => exact ⟨_, a₁, w₁, hq, harr⟩
      | outgrown => exact ⟨_, a₁, w₁, hq, harr⟩
  obtain ⟨e, a₁, w₁, hq, harr⟩ := first b (.inScope c :: k) cs
  cases e with
  | normal => exact ⟨.normal, a₁, w₁, hq, .head step_scope (Steps.trans harr (.one step_inScope))⟩
  | exit id => exact ⟨.exit id, a₁, w₁, hq, fun k' hk => .head step_scope (harr k' (by simp [exitTo, hk]))⟩
  | goto l' =>
    obtain ⟨n, hJ'⟩ := hq
    obtain ⟨rest', hf', e₂, a₂, w₂, hq₂, harr₂⟩ := key n l' a₁ w₁ hJ'
    have hg : gotoIn l' (.inScope c :: k) = some (.code rest' :: .inScope c :: k) := by simp [gotoIn, hf']
    exact ⟨e₂, a₂, w₂, hq₂, .of_steps (.head step_scope (harr _ hg)) harr₂⟩
  | ret => exact ⟨_, a₁, w₁, hq, .of_steps (.one step_scope) harr⟩
  | panic ch => exact ⟨_, a₁, w₁, hq, .of_steps (.one step_scope) harr⟩
  | outgrown => exact ⟨_, a₁, w₁, hq, .of_steps (.one step_scope) harr⟩
theorem toLabel_mono {R R' : Nat → Act → World → Prop} {Q : Exit → Act → World → Prop} (h : ∀ l a w, R l a w → R' l a w) (e : Exit) (a : Act) (w : World) (hq : toLabel R Q e a w) : toLabel R' Q e a w := by
  cases e <;> first | exact h _ _ _ hq | exact hq
/-- One label: what stands behind it is walked once, for the jumps and for the way that comes to it from above. -/
theorem wp_scope_once {P : Program} {c : Code} {a : Act} {w : World} {Q : Exit → Act → World → Prop} (l : Nat) (J : Nat → Act → World → Prop) (rest : Code) (hf : findLabel c l = some (Code.skip.seq rest))
    (pass : ∀ k a w, J k a w → rest.wp P (toLabel (fun l' a' w' => l' = l ∧ ∃ j, j < k ∧ J j a' w') Q) a w)
    (first : (∀ k a w, J k a w → rest.wp P (toLabel (fun l' a' w' => ∃ j, l' = l ∧ J j a' w') Q) a w) → c.wp P (toLabel (fun l' a w => ∃ k, l' = l ∧ J k a w) Q) a w) : (Code.scope c).wp P Q a w := by
  refine wp_scope_labels (fun l' k a w => l' = l ∧ J k a w) (first fun k a w h => ?_) ?_
  · exact wp_mono (pass k a w h) (fun e a w => toLabel_mono (fun l' a w ⟨hl, j, _, hj⟩ => ⟨j, hl, hj⟩) e a w)
  · rintro l' k a w ⟨rfl, h⟩
    exact ⟨_, hf, wp_seq (wp_skip (wp_mono (pass k a w h) (fun e a w => toLabel_mono (fun l' a w ⟨hl, j, hlt, hj⟩ => ⟨j, hlt, hl, hj⟩) e a w)))⟩
end Go.Proofs.Ytnmccihgiphmjaa
namespace Go.Proofs.Ytnmccihgiphmjaa
set_option linter.unusedVariables false
set_option linter.unusedSimpArgs false
open Go.RowKit
/-- The slots that the mask names are told anew. -/
def mergeL (f : Nat → Value) : List Bool → Nat → List Value → List Value
  | true :: m, k, _ :: l => f k :: mergeL f m (k + 1) l
  | false :: m, k, v :: l => v :: mergeL f m (k + 1) l
  | [], _, l => l
  | _ :: _, _, [] => []
def mergeA (m : List Bool) (f : Nat → Value) (a : Act) : Act := ⟨(mergeL f m 0 a.tmps.toList).toArray, a.defers⟩
def slotL : List Value → Nat → Value
  | [], _ => undef
  | v :: _, 0 => v
  | _ :: l, k + 1 => slotL l k
def slotF (a : Act) (k : Nat) : Value := slotL a.tmps.toList k
theorem mergeL_self (L : List Value) : ∀ (m : List Bool) (k : Nat) (l : List Value), (∀ i, slotL L (k + i) = slotL l i) → mergeL (slotL L) m k l = l
  | true :: m, k, v :: l, h => by
    unfold mergeL
    rw [mergeL_self L m (k + 1) l (fun i => by rw [show k + 1 + i = k + (i + 1) by omega, h]; rfl)]
    have := h 0
    rw [Nat.add_zero] at this
    rw [this]; rfl
  | false :: m, k, v :: l, h => by
    unfold mergeL
    rw [mergeL_self L m (k + 1) l (fun i => by rw [show k + 1 + i = k + (i + 1) by omega, h]; rfl)]
  | [], k, l, h => by cases l <;> rfl
  | true :: m, k, [], h => rfl
  | false :: m, k, [], h => rfl
theorem mergeA_self (m : List Bool) (a : Act) : mergeA m (slotF a) a = a := by
  unfold mergeA slotF
  rw [mergeL_self a.tmps.toList m 0 a.tmps.toList (fun i => by rw [Nat.zero_add])]
section
variable {P : Program}
theorem wp_loopF {c : Code} {Q : Exit → Act → World → Prop} {a : Act} {w : World} (m : List Bool) (R : (Nat → Value) → World → Prop) (mu : (Nat → Value) → Nat)
    (start : R (slotF a) w)
    (round : ∀ f w', R f w' → ∀ (J K' : Act → World → Prop), (∀ a' w'', a' = mergeA m (slotF a') a → R (slotF a') w'' → mu (slotF a') < mu f → J a' w'') → (∀ a' w'', Met J a' w'' → K' a' w'') → c.wp P (Exit.then K' Q) (mergeA m f a) w') : (Code.loop c).wp P Q a w := by
  refine wp_loop (fun a' w' => ∃ f, a' = mergeA m f a ∧ R f w' ∧ mu f = mu (slotF a')) (fun a' _ => mu (slotF a')) ⟨slotF a, (mergeA_self m a).symm, start, rfl⟩ ?_
  rintro a' w' ⟨f, rfl, hR, hmu⟩
  refine wp_mono (round f w' hR (fun a'' w'' => ∃ g, (a'' = mergeA m g a ∧ R g w'' ∧ mu g = mu (slotF a'')) ∧ mu (slotF a'') < mu f) _ (fun a'' w'' e r lt => ⟨_, ⟨e, r, rfl⟩, lt⟩) (fun _ _ h => h)) ?_
  intro e a1 w1 hq
  cases e with
  | normal =>
    obtain ⟨g, h, lt⟩ := hq
    exact ⟨⟨g, h⟩, by rw [← hmu]; exact lt⟩
  | exit id => exact hq
  | goto l => exact hq
  | ret => exact hq
  | panic ch => exact hq
  | outgrown => exact hq
end
end Go.Proofs.Ytnmccihgiphmjaa
namespace Go.Proofs.Ytnmccihgiphmjaa
set_option linter.unusedVariables false
set_option linter.unusedSimpArgs false
open Go.RowKit
theorem wp_scopeF {P : Program} {c : Code} {a : Act} {w : World} {Q : Exit → Act → World → Prop} (l : Nat) (m : List Bool) (R : Nat → (Nat → Value) → World → Prop) (rest : Code) (hf : findLabel c l = some (Code.skip.seq rest))
    (pass : ∀ k f w', R k f w' → ∀ (J : Act → World → Prop), (∀ j a' w'', j < k → a' = mergeA m (slotF a') a → R j (slotF a') w'' → J a' w'') → rest.wp P (toLabel (fun l' a' w'' => l' = l ∧ J a' w'') Q) (mergeA m f a) w')
    (first : ∀ (J : Act → World → Prop), (∀ k a' w'', a' = mergeA m (slotF a') a → R k (slotF a') w'' → rest.wp P (toLabel (fun l' a' w => l' = l ∧ J a' w) Q) a' w'') → c.wp P (toLabel (fun l' a w => l' = l ∧ J a w) Q) a w) : (Code.scope c).wp P Q a w := by
  refine wp_scope_once l (fun k a' w' => ∃ f, a' = mergeA m f a ∧ R k f w') rest hf ?_ (fun hp => ?_)
  · rintro k a' w' ⟨f, rfl, hR⟩
    refine wp_mono (pass k f w' hR (fun a' w'' => ∃ j, j < k ∧ ∃ f, a' = mergeA m f a ∧ R j f w'') (fun j a' w'' hj ha hR' => ⟨j, hj, _, ha, hR'⟩)) (fun e a w => toLabel_mono (fun l' a w ⟨hl, j, hj, h⟩ => ⟨hl, j, hj, h⟩) e a w)
  · refine wp_mono (first (fun a' w'' => ∃ j, ∃ f, a' = mergeA m f a ∧ R j f w'') (fun k a' w'' ha hR => ?_)) (fun e a w => toLabel_mono (fun l' a w ⟨hl, j, h⟩ => ⟨j, hl, h⟩) e a w)
    refine wp_mono (hp k a' w'' ⟨_, ha, hR⟩) (fun e a w => toLabel_mono (fun l' a w ⟨j, hl, h⟩ => ⟨hl, j, h⟩) e a w)
end Go.Proofs.Ytnmccihgiphmjaa
namespace Go.Proofs.Ytnmccihgiphmjaa
set_option linter.unusedVariables false
set_option linter.unusedSimpArgs false
open Go.RowKit
theorem runsL_len (S : Nat → Bool) (M k : Nat) : (runsL S M k).length ≤ M := by
  unfold runsL ups
  rw [List.length_map]
  exact Nat.le_trans (List.length_filter_le ..) (by simp)
section
variable {O : Nat → Prop} {w x y : World} {p first en free : Nat} {R R' : Nat → List Nat} {S T : Nat → Bool}
theorem budA_congr (h : BudA p first en free R O w) (hR : ∀ k, k < 10 → R k = R' k) : BudA p first en free R' O w := by
  obtain ⟨ad, cp, hb⟩ := h
  refine ⟨ad, cp, { hb with hp := ?_, rows := fun k hk => by rw [← hR k hk]; exact hb.rows k hk }⟩
  have e : budCells first en ad cp R' free = budCells first en ad cp R free := by
    unfold budCells
    congr 3
    exact List.map_congr_left fun k hk => by rw [hR k (List.mem_range.1 hk)]
  rw [e]; exact hb.hp
/-- The runs of a set. -/
noncomputable def runsF (S : Nat → Bool) (M : Nat) : Nat → List Nat := fun k => runsL S M k
theorem runsF_sorted (S : Nat → Bool) (M k : Nat) : (runsF S M k).Pairwise (· < ·) := runsL_sorted S M k
theorem budS_bnd (h : BudA p first en free R O w) : first ≤ 1048576 ∧ en ≤ 1048576 := by obtain ⟨ad, cp, hb⟩ := h; exact hb.bnd
/-- What a method turns: the buddy in its place. -/
def RetBud (w : World) (O : Nat → Prop) (p first en free : Nat) (R : Nat → List Nat) (v : Value) (e : Ending) (y : World) : Prop :=
  e = .returned v ∧ ∃ O', BudA p first en free R O' y ∧ (∀ b, O' b → O b ∨ w.heap.size ≤ b) ∧ Only O w y
theorem budCut_set (h : BudA p first en free (runsF S en) O w) (j b : Nat) (hr : Run S j b) (hj : j ≤ 9) (hb : b < en) :
    Calls Try.prog 51 #[.pointer (some ⟨p, 0, none⟩), .int .i64 ((b * 2 ^ j : Nat) : Int), .int .i64 (j : Nat)] w (RetBud w O p first en free (runsF (lessS S (b * 2 ^ j) (2 ^ j)) en) (.bool true)) := by
  obtain ⟨⟨l, m, hp⟩, ho⟩ := cut_run hr hj hb
  have hbnd := budS_bnd h
  obtain ⟨ad, cp, hB⟩ := h
  have hlk := hp.lacks
  refine (budCut_calls hB j (by omega) (b * 2 ^ j) (runsF_sorted S en j) (by have := runsL_len S en j; show (runsL S en j).length ≤ _; omega) (l := l) (m := m) (by rw [← hlk]; exact hp)).mono ?_
  rintro e y ⟨rfl, O', q1, q2, q3⟩
  refine ⟨rfl, O', budA_congr q1 (fun k hk => ?_), q2, q3⟩
  by_cases hkj : k = j
  · subst hkj; rw [upd_same]; exact hlk.symm
  · rw [upd_ne _ _ hkj]; exact (ho k (by omega) hkj).symm
theorem budCut_miss (h : BudA p first en free (runsF S en) O w) (j b : Nat) (hr : ¬ Run S j b) (hj : j ≤ 9) :
    Calls Try.prog 51 #[.pointer (some ⟨p, 0, none⟩), .int .i64 ((b * 2 ^ j : Nat) : Int), .int .i64 (j : Nat)] w (RetB w (.bool false)) := by
  have hbnd := budS_bnd h
  obtain ⟨ad, cp, hB⟩ := h
  refine budCut_none hB j (by omega) (b * 2 ^ j) (runsF_sorted S en j) (by have := runsL_len S en j; show (runsL S en j).length ≤ _; omega) (fun hm => hr ?_)
  obtain ⟨q, h1, h2, h3⟩ := mem_runsL.1 hm
  have : q = b := Nat.eq_of_mul_eq_mul_right (Nat.two_pow_pos j) h3
  rwa [← this]
theorem budPut_set (h : BudA p first en free (runsF S en) O w) (k f : Nat) (hk : k ≤ 9) {l m : List Nat} (hp : PartL (runsL T en k) (runsL S en k) f l m) (ho : ∀ i, i ≤ 9 → i ≠ k → runsL T en i = runsL S en i) :
    Calls Try.prog 52 #[.pointer (some ⟨p, 0, none⟩), .int .i64 (f : Nat), .int .i64 (k : Nat)] w (RetBud w O p first en free (runsF T en) (.tuple #[])) := by
  have hbnd := budS_bnd h
  obtain ⟨ad, cp, hB⟩ := h
  refine (budPut_calls hB k (by omega) f (runsF_sorted S en k) (by have := runsL_len S en k; show (runsL S en k).length ≤ _; omega)).mono ?_
  rintro e y ⟨rfl, O', q1, q2, q3⟩
  refine ⟨rfl, O', budA_congr q1 (fun i hi => ?_), q2, q3⟩
  by_cases hik : i = k
  · subst hik
    rw [upd_same]
    have h1 : (runsF S en i).countP (fun y => decide (y < f)) = l.length := hp.count.2
    rw [h1]
    show (runsL S en i).take l.length ++ f :: (runsL S en i).drop l.length = runsL T en i
    rw [hp.lacks, hp.has]
    simp
  · rw [upd_ne _ _ hik]; exact (ho i (by omega) hik).symm
theorem budHas_set (h : BudA p first en free (runsF S en) O w) (hS : ∀ x, S x = true → first ≤ x ∧ x < en) (f : Nat) :
    Calls Try.prog 50 #[.pointer (some ⟨p, 0, none⟩), .int .i64 (f : Nat)] w (RetB w (.bool (S f))) := by
  have hbnd := budS_bnd h
  obtain ⟨ad, cp, hB⟩ := h
  by_cases hf : first ≤ f ∧ f < en
  · have h1 := budHas_in hB f hf (fun k _ => runsF_sorted S en k) (fun k _ => by have := runsL_len S en k; show (runsL S en k).length ≤ _; omega)
    have e : decide (∃ k, k ≤ 9 ∧ f / 2 ^ k * 2 ^ k ∈ runsF S en k) = S f := by
      apply Bool.eq_iff_iff.2
      rw [decide_eq_true_iff]
      exact (has_iff (fun x hx => (hS x hx).2)).symm
    rwa [e] at h1
  · have h1 := budHas_out hB f (by omega)
    have e : S f = false := by rw [Bool.eq_false_iff]; exact fun h => hf (hS f h)
    rwa [e]
end
end Go.Proofs.Ytnmccihgiphmjaa
