/- A statement whose order is open, all of whose operations give the same in every world of S: it is walked once, in the order of the text. No function of the program stands here. -/
import Derived.Test.YtfiofjalpaeohaaBase
namespace Go.Proofs.Ytfiofjalpaeohaa
set_option linter.unusedVariables false
set_option linter.unusedSimpArgs false
open Go.RowKit

section
variable {P : Program} {ops : Array Oper} {S : World → Prop}

/-- The end of one operation. -/
def Fin (S : World → Prop) (a' : Act) (e : Exit) (a'' : Act) (w' : World) : Prop := e = .normal ∧ a'' = a' ∧ S w'

/-- This one world. -/
def Is (W w : World) : Prop := w = W

/-- What comes behind the last operation. -/
def Later (S : World → Prop) (Q : Exit → Act → World → Prop) (a : Act) : Prop := ∀ w, S w → Q .normal a w

/-- In every world of S this operation comes to the frame a', and the world behind it is one of S. -/
def Gives (P : Program) (ops : Array Oper) (S : World → Prop) (o : Oper) (a a' : Act) : Prop :=
  ∀ w, S w → wpList P ops (Fin S a') [o] a w

/-- The operations one by one, in the order of the text. -/
def Walked (P : Program) (ops : Array Oper) (S : World → Prop) (Q : Act → Prop) : List Oper → Act → Prop
  | [], a => Q a
  | o :: r, a => ∃ a', Gives P ops S o a a' ∧ a'.defers = a.defers ∧ Walked P ops S Q r a'

/-- Two frames agree on what an operation looks at. -/
def Agree (ops : Array Oper) (o : Oper) (a b : Act) : Prop := b.tmps.size = a.tmps.size ∧ ∀ t, t ∈ o.looksAt ops → b.tmps[t]? = a.tmps[t]?

theorem agree_eval {o : Oper} {a b : Act} (h : Agree ops o a b) (hs : ∀ cs c, o.op ≠ .select cs c) : execOp b.eval o = execOp a.eval o := by
  refine execOp_congr o hs fun x hx => ?_
  cases x with
  | tmp t =>
    have ht : t ∈ o.looksAt ops := List.mem_append_left _ (List.mem_filterMap.2 ⟨.tmp t, by simpa using hx, rfl⟩)
    have := h.2 t ht
    simp [Act.eval, this]
  | _ => rfl

theorem agree_wanted {o : Oper} {a b : Act} (h : Agree ops o a b) : Region.wanted o (yielded ops b.tmps) = Region.wanted o (yielded ops a.tmps) := by
  unfold Region.wanted
  cases hg : o.guard with
  | none => rfl
  | some gw =>
    obtain ⟨g, want⟩ := gw
    have hy : yielded ops b.tmps g = yielded ops a.tmps g := by
      unfold yielded
      cases ht : (ops[g]?).bind (·.dst) with
      | none => rfl
      | some t =>
        have := h.2 t (by simp [Oper.looksAt, hg, ht])
        simp [this]
    simp only [hy]

theorem put_same {a b : Act} {dst : Option Tmp} {v u : Value} (hsz : b.tmps.size = a.tmps.size) (h : a.put dst v = a.put dst u) : b.put dst v = b.put dst u := by
  cases dst with
  | none => rfl
  | some d =>
    by_cases hd : d < a.tmps.size
    · have h1 := congrArg (fun x : Act => x.tmps[d]?) h
      simp [Act.put, hd] at h1
      rw [h1]
    · have hd' : ¬ d < b.tmps.size := by rw [hsz]; exact hd
      simp [Act.put, Array.setIfInBounds, hd']

/-- What an operation gives at one frame it gives at every frame that agrees on what it looks at. -/
theorem gives_val {o : Oper} {a a' : Act} (h : Gives P ops S o a a') (hd : a'.defers = a.defers) (hs : ∀ cs c, o.op ≠ .select cs c) {w0 : World} (h0 : S w0) :
    ∃ v, a' = a.put o.dst v ∧ ∀ (b : Act) (w : World) (K : Act → World → Prop) (Q : Exit → Act → World → Prop), Agree ops o a b → S w → (∀ w', S w' → K (b.put o.dst v) w') →
      (if Region.wanted o (yielded ops b.tmps) then o.wp P b w K Q ∨ (o.asks P b w ∧ LetsOut Q) else K (b.put o.dst undef) w) := by
  by_cases hw : Region.wanted o (yielded ops a.tmps) = true
  · -- what it comes to in a world of S
    have key : ∀ w, S w → o.wp P a w (fun a'' w' => a'' = a' ∧ S w') (fun _ _ _ => False) := by
      intro w hS
      have h1 := h w hS
      unfold wpList at h1
      rw [if_pos hw] at h1
      rcases h1 with h1 | ⟨_, a1, w1, h1, _⟩
      · unfold Oper.wp at h1 ⊢
        generalize (execOp a.eval o).run P w = r at h1 ⊢
        cases r with
        | ok n w' =>
          cases n with
          | value v => exact h1.2
          | skip => exact h1.2
          | defer d => exact h1.2
          | enter f args =>
            simp only [Oper.upon] at h1 ⊢
            refine Calls.mono h1 fun e w'' he => ?_
            cases e with
            | returned v => exact he.2
            | panicked c => exact absurd he.1 (by simp)
            | outgrown => obtain ⟨_, _, h2, _⟩ := he; exact absurd h2 (by simp)
          | row row args =>
            simp only [Oper.upon] at h1 ⊢
            exact Rows.mono h1 fun v w'' he => he.2
          | _ => exact (h1 : False).elim
        | halt x w' =>
          cases x <;> simp only [Oper.upon] at h1 ⊢ <;> first | exact h1 | exact absurd h1.1 (by simp)
      · exact absurd h1 (by simp)
    have nodefer : ∀ d, ({ a with defers := d :: a.defers } : Act).put o.dst undef ≠ a' := by
      intro d e
      have h1 := congrArg Act.defers e
      rw [hd] at h1
      have h2 : (({ a with defers := d :: a.defers } : Act).put o.dst undef).defers = d :: a.defers := by cases o.dst <;> rfl
      rw [h2] at h1
      have := congrArg List.length h1
      simp at this
    -- the value
    have hv : ∃ v, a' = a.put o.dst v := by
      have k0 := key w0 h0
      unfold Oper.wp at k0
      generalize (execOp a.eval o).run P w0 = r at k0
      cases r with
      | ok n w' =>
        cases n with
        | value v => exact ⟨v, k0.1.symm⟩
        | skip => exact ⟨undef, k0.1.symm⟩
        | defer d => exact absurd k0.1 (nodefer d)
        | enter f args =>
          simp only [Oper.upon] at k0
          obtain ⟨e, w'', fr, hr, _⟩ := k0 []
          cases e with
          | returned v => exact ⟨v, hr.1.symm⟩
          | panicked c => exact hr.elim
          | outgrown => obtain ⟨_, _, h2⟩ := hr; exact h2.elim
        | row row args =>
          simp only [Oper.upon] at k0
          obtain ⟨v, w'', hr, _⟩ := k0 default []
          exact ⟨v, hr.1.symm⟩
        | _ => exact (k0 : False).elim
      | halt x w' => cases x <;> simp only [Oper.upon] at k0
    obtain ⟨v, hv⟩ := hv
    refine ⟨v, hv, fun b w K Q hab hS hK => ?_⟩
    rw [agree_wanted hab, if_pos hw]
    refine .inl ?_
    have k := key w hS
    unfold Oper.wp at k ⊢
    rw [agree_eval hab hs]
    have same : ∀ u, a.put o.dst u = a' → b.put o.dst u = b.put o.dst v := fun u hu => put_same hab.1 (hu.trans hv)
    generalize (execOp a.eval o).run P w = r at k ⊢
    cases r with
    | ok n w' =>
      cases n with
      | value u => show K _ _; rw [same u k.1]; exact hK _ k.2
      | skip => show K _ _; rw [same undef k.1]; exact hK _ k.2
      | defer d => exact absurd k.1 (nodefer d)
      | enter f args =>
        simp only [Oper.upon] at k ⊢
        refine Calls.mono k fun e w'' he => ?_
        cases e with
        | returned u => show K _ _; rw [same u he.1]; exact hK _ he.2
        | panicked c => exact he.elim
        | outgrown => obtain ⟨_, _, h2⟩ := he; exact h2.elim
      | row row args =>
        simp only [Oper.upon] at k ⊢
        refine Rows.mono k fun u w'' he => ?_
        rw [same u he.1]; exact hK _ he.2
      | _ => exact (k : False).elim
    | halt x w' => cases x <;> simp only [Oper.upon] at k
  · have hw' : Region.wanted o (yielded ops a.tmps) = false := by simpa using hw
    refine ⟨undef, ?_, fun b w K Q hab hS hK => ?_⟩
    · have h1 := h w0 h0
      unfold wpList at h1
      rw [if_neg hw] at h1
      exact h1.2.1.symm
    · rw [agree_wanted hab, if_neg hw]
      exact hK w hS
end

/-! What comes ahead of what. -/

theorem inner_bit (acc : Array Nat) (x : Nat) : ∀ (es : List Edge) (s0 : Nat),
    (es.foldl (fun s e => if Region.binds .any e then s ||| 2 ^ e.on ||| acc.getD e.on 0 else s) s0).testBit x = true →
    s0.testBit x = true ∨ ∃ e ∈ es, Region.binds .any e = true ∧ (e.on = x ∨ (acc.getD e.on 0).testBit x = true) := by
  intro es
  induction es with
  | nil => intro s0 h; exact .inl h
  | cons e es ih =>
    intro s0 h
    rw [List.foldl_cons] at h
    rcases ih _ h with h1 | ⟨e', he', hb, hx⟩
    · split at h1
      · rename_i hb
        rw [Nat.testBit_or, Nat.testBit_or, Bool.or_eq_true, Bool.or_eq_true] at h1
        rcases h1 with (h1 | h1) | h1
        · exact .inl h1
        · rw [Nat.testBit_two_pow] at h1
          exact .inr ⟨e, List.mem_cons_self, hb, .inl (of_decide_eq_true h1)⟩
        · exact .inr ⟨e, List.mem_cons_self, hb, .inr h1⟩
      · exact .inl h1
    · exact .inr ⟨e', List.mem_cons_of_mem _ he', hb, hx⟩

/-- One more mask. -/
def maskStep (acc : Array Nat) (o : Oper) : Array Nat :=
  acc.push (o.after.foldl (fun s e => if Region.binds .any e then s ||| 2 ^ e.on ||| acc.getD e.on 0 else s) 0)

theorem masks_eq (ops : Array Oper) : Region.before ops = ops.toList.foldl maskStep #[] := by
  unfold Region.before
  rw [← Array.foldl_toList]
  rfl

theorem masks_fold : ∀ (l : List Oper) (acc : Array Nat),
    (∀ i, i < acc.size → (l.foldl maskStep acc).getD i 0 = acc.getD i 0) ∧ (l.foldl maskStep acc).size = acc.size + l.length ∧
    ∀ j o, l[j]? = some o → ∃ acc' : Array Nat, acc'.size = acc.size + j ∧ (∀ i, i < acc'.size → acc'.getD i 0 = (l.foldl maskStep acc).getD i 0) ∧
      (l.foldl maskStep acc).getD (acc.size + j) 0 = o.after.foldl (fun s e => if Region.binds .any e then s ||| 2 ^ e.on ||| acc'.getD e.on 0 else s) 0 := by
  intro l
  induction l with
  | nil => intro acc; exact ⟨fun _ _ => rfl, by simp, fun j o h => by simp at h⟩
  | cons o l ih =>
    intro acc
    obtain ⟨h1, h2, h3⟩ := ih (maskStep acc o)
    have hsz : (maskStep acc o).size = acc.size + 1 := by simp [maskStep]
    have hold : ∀ i, i < acc.size → (maskStep acc o).getD i 0 = acc.getD i 0 := fun i hi => by
      simp [maskStep, Array.getElem?_push, Nat.ne_of_lt hi]
    have hnew : (maskStep acc o).getD acc.size 0 = o.after.foldl (fun s e => if Region.binds .any e then s ||| 2 ^ e.on ||| acc.getD e.on 0 else s) 0 := by
      simp [maskStep]
    rw [List.foldl_cons]
    refine ⟨fun i hi => (h1 i (by omega)).trans (hold i hi), by rw [h2, hsz, List.length_cons]; omega, fun j o' hj => ?_⟩
    cases j with
    | zero =>
      simp at hj
      subst hj
      exact ⟨acc, rfl, fun i hi => ((h1 i (by omega)).trans (hold i hi)).symm, by rw [Nat.add_zero, h1 _ (by omega), hnew]⟩
    | succ j =>
      rw [List.getElem?_cons_succ] at hj
      obtain ⟨acc', a1, a2, a3⟩ := h3 j o' hj
      exact ⟨acc', by omega, a2, by rw [show acc.size + (j + 1) = (maskStep acc o).size + j by omega]; exact a3⟩

theorem mask_bit {ops : Array Oper} {x y : Nat} {o : Oper} (ho : ops[y]? = some o) (h : ((Region.before ops).getD y 0).testBit x = true) :
    ∃ e ∈ o.after, Region.binds .any e = true ∧ (e.on = x ∨ (e.on < y ∧ ((Region.before ops).getD e.on 0).testBit x = true)) := by
  obtain ⟨_, _, h3⟩ := masks_fold ops.toList #[]
  obtain ⟨acc', a1, a2, a3⟩ := h3 y o (by simpa using ho)
  rw [masks_eq] at h ⊢
  simp only [Array.size_empty, Nat.zero_add] at a1 a3
  rw [a3, ← Array.foldl_toList] at h
  rcases inner_bit acc' x _ _ h with h1 | ⟨e, he, hb, hx⟩
  · simp at h1
  · refine ⟨e, by simpa using he, hb, ?_⟩
    rcases hx with hx | hx
    · exact .inl hx
    · rcases Nat.lt_or_ge e.on acc'.size with hlt | hge
      · exact .inr ⟨by omega, by rw [← a2 _ hlt]; exact hx⟩
      · rw [show acc'.getD e.on 0 = 0 by simp [Array.getElem?_eq_none hge]] at hx
        simp at hx

/-- All that an operation waits for has come up. -/
def AllMet (ops : Array Oper) (listed : Array Bool) (y : Nat) : Prop := ∀ o, ops[y]? = some o → ∀ e ∈ o.after, Region.binds .any e = true → listed.getD e.on false = true

theorem met_bit {ops : Array Oper} {listed : Array Bool} (hc : ∀ y, listed.getD y false = true → AllMet ops listed y) (x : Nat) : ∀ (n y : Nat), y < n → y < ops.size → AllMet ops listed y →
    ((Region.before ops).getD y 0).testBit x = true → listed.getD x false = true := by
  intro n
  induction n with
  | zero => intro y h; omega
  | succ n ih =>
    intro y hy hs hm hb
    obtain ⟨e, he, hbind, hx⟩ := mask_bit (Array.getElem?_eq_getElem hs) hb
    have hl := hm _ (Array.getElem?_eq_getElem hs) e he hbind
    rcases hx with rfl | ⟨hlt, hx⟩
    · exact hl
    · exact ih e.on (by omega) (by omega) (hc _ hl) hx

/-- May the operations be walked in the order of the text? Each slot is written once, and who reads it comes ahead of or behind its writer in every order. -/
def seqOk (ops : Array Oper) : Bool :=
  (List.range ops.size).all fun j => match ops[j]? with
    | none => true
    | some o => (match o.op with | .select .. => false | _ => true) && o.after.all (fun e => !Region.binds .any e || decide (e.on < j)) &&
      (List.range ops.size).all fun i => i == j || match (ops[i]?).bind (·.dst) with
        | none => true
        | some t => o.dst != some t && (!(o.looksAt ops).contains t || (if i < j then ((Region.before ops).getD j 0).testBit i else ((Region.before ops).getD i 0).testBit j))

theorem seqOk_spec {ops : Array Oper} (h : seqOk ops = true) {j : Nat} {o : Oper} (ho : ops[j]? = some o) :
    (∀ cs c, o.op ≠ .select cs c) ∧ (∀ e ∈ o.after, Region.binds .any e = true → e.on < j) ∧
    ∀ i o', ops[i]? = some o' → i ≠ j → ∀ t, o'.dst = some t → o.dst ≠ some t ∧
      (t ∈ o.looksAt ops → (i < j ∧ ((Region.before ops).getD j 0).testBit i = true) ∨ (j < i ∧ ((Region.before ops).getD i 0).testBit j = true)) := by
  have hj : j < ops.size := (Array.getElem?_eq_some_iff.1 ho).1
  have h1 := (List.all_eq_true.1 h) j (List.mem_range.2 hj)
  simp only [ho, Bool.and_eq_true] at h1
  obtain ⟨⟨hs, he⟩, hi⟩ := h1
  refine ⟨fun cs c e => by rw [e] at hs; simp at hs, fun e hm hb => ?_, fun i o' ho' hne t ht => ?_⟩
  · have := (Array.all_eq_true_iff_forall_mem.1 he) e hm
    simpa [hb] using this
  · have hi' : i < ops.size := (Array.getElem?_eq_some_iff.1 ho').1
    have h2 := (List.all_eq_true.1 hi) i (List.mem_range.2 hi')
    simp only [ho', Option.bind_some, ht, Bool.or_eq_true, beq_iff_eq, hne, false_or, Bool.and_eq_true, bne_iff_ne, ne_eq] at h2
    refine ⟨h2.1, fun hm => ?_⟩
    rcases h2.2 with h3 | h3
    · simp [hm] at h3
    · split at h3
      · exact .inl ⟨by assumption, h3⟩
      · exact .inr ⟨by omega, h3⟩

theorem count_lt {p q : Nat → Bool} (h : ∀ k, q k = true → p k = true) {j : Nat} (hp : p j = true) (hq : q j = false) : ∀ {l : List Nat}, j ∈ l → (l.filter q).length < (l.filter p).length := by
  have hle : ∀ l : List Nat, (l.filter q).length ≤ (l.filter p).length := by
    intro l
    induction l with
    | nil => simp
    | cons x l ih =>
      by_cases hx : q x = true
      · simp [hx, h x hx]; exact ih
      · by_cases hy : p x = true
        · simp [hx, hy]; omega
        · simp [hx, hy]; exact ih
  intro l
  induction l with
  | nil => intro hj; simp at hj
  | cons x l ih =>
    intro hj
    by_cases hxj : x = j
    · subst hxj
      have := hle l
      simp [hp, hq]; omega
    · have hj' : j ∈ l := by simpa [Ne.symm hxj] using hj
      have := ih hj'
      by_cases hx : q x = true
      · simp [hx, h x hx]; exact this
      · by_cases hy : p x = true
        · simp [hx, hy]; omega
        · simp [hx, hy]; exact this

section
variable {P : Program} {ops : Array Oper} {S : World → Prop} {Q : Exit → Act → World → Prop}

theorem walked_chain {Qf : Act → Prop} : ∀ (l : List Oper) (a : Act), Walked P ops S Qf l a →
    ∃ A : Nat → Act, A 0 = a ∧ (∀ k o, l[k]? = some o → Gives P ops S o (A k) (A (k + 1)) ∧ (A (k + 1)).defers = (A k).defers) ∧ Qf (A l.length) := by
  intro l
  induction l with
  | nil => intro a h; exact ⟨fun _ => a, rfl, fun k o hk => by simp at hk, h⟩
  | cons o l ih =>
    intro a h
    obtain ⟨a', hg, hd, hr⟩ := h
    obtain ⟨A, h0, h1, h2⟩ := ih a' hr
    refine ⟨fun k => match k with | 0 => a | k + 1 => A k, rfl, fun k o' hk => ?_, h2⟩
    cases k with
    | zero =>
      simp at hk
      subst hk
      exact ⟨show Gives P ops S o a (A 0) by rw [h0]; exact hg, show (A 0).defers = a.defers by rw [h0]; exact hd⟩
    | succ k => exact h1 k o' (by simpa using hk)

/-- The frame while the operations come up in some order: what has come up holds its value, all else is as it was. -/
structure Midway (ops : Array Oper) (a z : Act) (listed : Array Bool) (b : Act) : Prop where
  size : b.tmps.size = a.tmps.size
  defers : b.defers = a.defers
  len : listed.size = ops.size
  closed : ∀ y, listed.getD y false = true → AllMet ops listed y
  done : ∀ k o t, ops[k]? = some o → listed.getD k false = true → o.dst = some t → b.tmps[t]? = z.tmps[t]?
  left : ∀ t, (∀ k o, ops[k]? = some o → listed.getD k false = true → o.dst ≠ some t) → b.tmps[t]? = a.tmps[t]?

theorem act_ext {a b : Act} (h : a.tmps = b.tmps) (hd : a.defers = b.defers) : a = b := by
  cases a; cases b; simp_all

theorem put_size (a : Act) (d : Option Tmp) (v : Value) : (a.put d v).tmps.size = a.tmps.size := by cases d <;> simp [Act.put]
theorem put_defs (a : Act) (d : Option Tmp) (v : Value) : (a.put d v).defers = a.defers := by cases d <;> simp [Act.put]
theorem put_ne {a : Act} {d : Option Tmp} {v : Value} {t : Tmp} (h : d ≠ some t) : (a.put d v).tmps[t]? = a.tmps[t]? := by
  cases d with
  | none => rfl
  | some d => simp [Act.put, Array.getElem?_setIfInBounds_ne (show d ≠ t from fun e => h (by rw [e]))]
theorem put_at {a b : Act} {v : Value} {t : Tmp} (h : a.tmps.size = b.tmps.size) : (a.put (some t) v).tmps[t]? = (b.put (some t) v).tmps[t]? := by
  simp [Act.put, Array.getElem?_setIfInBounds, h]

/-- **A statement whose order is open: one walk, in the order of the text, is enough.** -/
theorem wp_region_walked {id : Nat} {a : Act} {w : World} (hm : P.follows .mixedOrders = true) (hok : seqOk ops = true) (hS : S w.drew)
    (h : Walked P ops S (Later S Q) ops.toList a) : (Code.region id ops true).wp P Q a w := by
  obtain ⟨A, hA0, hA, hQ⟩ := walked_chain _ _ h
  have hA' : ∀ k o, ops[k]? = some o → ∃ v, A (k + 1) = (A k).put o.dst v ∧ ∀ (b : Act) (w : World) (K : Act → World → Prop) (Q : Exit → Act → World → Prop), Agree ops o (A k) b → S w →
      (∀ w', S w' → K (b.put o.dst v) w') → (if Region.wanted o (yielded ops b.tmps) then o.wp P b w K Q ∨ (o.asks P b w ∧ LetsOut Q) else K (b.put o.dst undef) w) := fun k o ho => by
    obtain ⟨g, d⟩ := hA k o (by simpa using ho)
    exact gives_val g d (seqOk_spec hok ho).1 hS
  have hlen : ops.toList.length = ops.size := by simp
  rw [hlen] at hQ
  have asz : ∀ k, k ≤ ops.size → (A k).tmps.size = a.tmps.size ∧ (A k).defers = a.defers := by
    intro k
    induction k with
    | zero => intro _; rw [hA0]; exact ⟨rfl, rfl⟩
    | succ k ih =>
      intro hk
      obtain ⟨v, hv, _⟩ := hA' k _ (Array.getElem?_eq_getElem (show k < ops.size by omega))
      obtain ⟨i1, i2⟩ := ih (by omega)
      rw [hv, put_size, put_defs]; exact ⟨i1, i2⟩
  -- between k and m nothing writes t
  have far : ∀ k t m, k ≤ m → m ≤ ops.size → (∀ i o, k ≤ i → i < m → ops[i]? = some o → o.dst ≠ some t) → (A m).tmps[t]? = (A k).tmps[t]? := by
    intro k t m
    induction m with
    | zero => intro h1 _ _; rw [show k = 0 by omega]
    | succ m ih =>
      intro h1 h2 hno
      by_cases hkm : k = m + 1
      · rw [hkm]
      · obtain ⟨v, hv, _⟩ := hA' m _ (Array.getElem?_eq_getElem (show m < ops.size by omega))
        rw [hv, put_ne (hno m _ (by omega) (by omega) (Array.getElem?_eq_getElem (show m < ops.size by omega)))]
        exact ih (by omega) (by omega) (fun i o hi hi' ho => hno i o hi (by omega) ho)
  have unlike : ∀ (i j : Nat) (oi oj : Oper) (t : Tmp), ops[i]? = some oi → ops[j]? = some oj → oi.dst = some t → oj.dst = some t → i = j := by
    intro i j oi oj t hi hj ti tj
    by_cases e : i = j
    · exact e
    · exact absurd tj (((seqOk_spec hok hj).2.2 i oi hi e t ti).1)
  have lt_of : ∀ (listed : Array Bool) k, listed.getD k false = true → listed.size = ops.size → k < ops.size := by
    intro listed k hk hl
    rcases Nat.lt_or_ge k listed.size with h' | h'
    · omega
    · simp [Array.getElem?_eq_none h'] at hk
  -- what comes up next gives what it gives in the order of the text
  have main : ∀ (fuel : Nat) (listed : Array Bool) (b : Act) (w : World), ((List.range ops.size).filter (fun k => !listed.getD k true)).length ≤ fuel →
      Midway ops a (A ops.size) listed b → S w → wpAny P .any ops Q fuel listed b w := by
    intro fuel
    induction fuel with
    | zero =>
      intro listed b w hf hM hw
      have hall : ∀ k, k < ops.size → listed.getD k false = true := by
        intro k hk
        have hnil : (List.range ops.size).filter (fun k => !listed.getD k true) = [] := List.length_eq_zero_iff.1 (by omega)
        have := (List.filter_eq_nil_iff.1 hnil) k (List.mem_range.2 hk)
        have hkl : k < listed.size := by rw [hM.len]; exact hk
        simpa [hkl] using this
      have hfin : b = A ops.size := by
        refine act_ext (Array.ext_getElem? fun t => ?_) (by rw [hM.defers, (asz _ (Nat.le_refl _)).2])
        by_cases hx : ∃ (k : Nat) (o : Oper), ops[k]? = some o ∧ o.dst = some t
        · obtain ⟨k, o, ho, ht⟩ := hx
          exact hM.done k o t ho (hall k (Array.getElem?_eq_some_iff.1 ho).1) ht
        · rw [hM.left t (fun k o ho _ ht => hx ⟨k, o, ho, ht⟩), far 0 t ops.size (by omega) (Nat.le_refl _) (fun i o _ _ ho ht => hx ⟨i, o, ho, ht⟩), hA0]
      refine ⟨?_, by rw [hfin]; exact hQ w hw⟩
      refine List.eq_nil_iff_forall_not_mem.2 fun j hj => ?_
      obtain ⟨hjun, o, ho, _⟩ := mem_ready.1 hj
      have hjl : j < listed.size := by rw [hM.len]; exact (Array.getElem?_eq_some_iff.1 ho).1
      have := hall j (Array.getElem?_eq_some_iff.1 ho).1
      simp [hjl] at hjun this
      rw [this] at hjun; cases hjun
    | succ fuel ih =>
      intro listed b w hf hM hw
      refine ⟨fun hnil => ?_, fun j hj => ?_⟩
      · -- nothing is left: all have come up
        have hall : ∀ n k, k < n → k < ops.size → listed.getD k false = true := by
          intro n
          induction n with
          | zero => intro k hk; omega
          | succ n ihn =>
            intro k hk hs
            by_cases hl : listed.getD k false = true
            · exact hl
            · exfalso
              have hkl : k < listed.size := by rw [hM.len]; exact hs
              have hmem : k ∈ Region.ready .any ops listed := mem_ready.2 ⟨by simpa [hkl] using hl, _, Array.getElem?_eq_getElem hs, fun e he hb => by
                have hlt := (seqOk_spec hok (Array.getElem?_eq_getElem hs)).2.1 e he hb
                exact ihn e.on (by omega) (by omega)⟩
              rw [hnil] at hmem
              cases hmem
        have hfin : b = A ops.size := by
          refine act_ext (Array.ext_getElem? fun t => ?_) (by rw [hM.defers, (asz _ (Nat.le_refl _)).2])
          by_cases hx : ∃ (k : Nat) (o : Oper), ops[k]? = some o ∧ o.dst = some t
          · obtain ⟨k, o, ho, ht⟩ := hx
            exact hM.done k o t ho (hall _ k (Nat.lt_succ_self k) (Array.getElem?_eq_some_iff.1 ho).1) ht
          · rw [hM.left t (fun k o ho _ ht => hx ⟨k, o, ho, ht⟩), far 0 t ops.size (by omega) (Nat.le_refl _) (fun i o _ _ ho ht => hx ⟨i, o, ho, ht⟩), hA0]
        rw [hfin]; exact hQ w hw
      · obtain ⟨hjun, o, ho, hedges⟩ := mem_ready.1 hj
        have hjs : j < ops.size := (Array.getElem?_eq_some_iff.1 ho).1
        have hjl : j < listed.size := by rw [hM.len]; exact hjs
        have hjun' : listed.getD j false = false := by simpa [hjl] using hjun
        have hmet : AllMet ops listed j := fun o' ho' e he hb => by
          rw [ho] at ho'
          cases ho'
          exact hedges e he hb
        obtain ⟨v, hv, step⟩ := hA' j o ho
        have hag : Agree ops o (A j) b := by
          refine ⟨by rw [hM.size, (asz j (by omega)).1], fun t ht => ?_⟩
          by_cases hx : ∃ (i : Nat) (oi : Oper), ops[i]? = some oi ∧ oi.dst = some t
          · obtain ⟨i, oi, hi, hti⟩ := hx
            by_cases hij : i = j
            · rw [hM.left t (fun k ok hk hlk htk => by
                have : k = i := unlike k i ok oi t hk hi htk hti
                rw [this, hij, hjun'] at hlk
                cases hlk), far 0 t j (by omega) (by omega) (fun k ok _ hk hok' htk => by
                have : k = i := unlike k i ok oi t hok' hi htk hti
                omega), hA0]
            · rcases ((seqOk_spec hok ho).2.2 i oi hi hij t hti).2 ht with ⟨hlt, hbit⟩ | ⟨hlt, hbit⟩
              · have hli := met_bit hM.closed i (j + 1) j (by omega) hjs hmet hbit
                rw [hM.done i oi t hi hli hti]
                exact far j t ops.size (by omega) (Nat.le_refl _) (fun k ok hk _ hok' htk => by
                  have : k = i := unlike k i ok oi t hok' hi htk hti
                  omega)
              · have hun : listed.getD i false ≠ true := fun hli => by
                  have his : i < ops.size := (Array.getElem?_eq_some_iff.1 hi).1
                  have := met_bit hM.closed j (i + 1) i (by omega) his (hM.closed i hli) hbit
                  rw [hjun'] at this
                  cases this
                rw [hM.left t (fun k ok hk hlk htk => by
                  have : k = i := unlike k i ok oi t hk hi htk hti
                  rw [this] at hlk
                  exact hun hlk), far 0 t j (by omega) (by omega) (fun k ok _ hk hok' htk => by
                  have : k = i := unlike k i ok oi t hok' hi htk hti
                  omega), hA0]
          · rw [hM.left t (fun k ok hk _ htk => hx ⟨k, ok, hk, htk⟩), far 0 t j (by omega) (by omega) (fun k ok _ _ hk htk => hx ⟨k, ok, hk, htk⟩), hA0]
        have hM' : Midway ops a (A ops.size) (listed.setIfInBounds j true) (b.put o.dst v) := by
          refine ⟨by rw [put_size, hM.size], by rw [put_defs, hM.defers], by rw [Array.size_setIfInBounds, hM.len], fun y hy => ?_, fun k ok t hk hlk htk => ?_, fun t hno => ?_⟩
          · intro oy hoy e he hb
            by_cases hyj : j = y
            · subst hyj
              exact getD_set_true (hmet oy hoy e he hb)
            · rw [getD_set_ne false hyj] at hy
              exact getD_set_true (hM.closed y hy oy hoy e he hb)
          · by_cases hkj : j = k
            · subst hkj
              rw [ho] at hk
              cases hk
              rw [htk, put_at (b := A j) (by rw [hM.size, (asz j (by omega)).1]), ← htk, ← hv]
              exact (far (j + 1) t ops.size (by omega) (Nat.le_refl _) (fun i oi hi _ hoi hti => by
                have : i = j := unlike i j oi o t hoi ho hti htk
                omega)).symm
            · rw [getD_set_ne false hkj] at hlk
              rw [put_ne (fun e => hkj (unlike j k o ok t ho hk e htk))]
              exact hM.done k ok t hk hlk htk
          · have hjt : o.dst ≠ some t := hno j o ho (by simp [hjl])
            rw [put_ne hjt]
            refine hM.left t (fun k ok hk hlk => hno k ok hk ?_)
            exact getD_set_true hlk
        unfold wpOp
        simp only [ho]
        refine step b w _ Q hag hw (fun w' hw' => ih _ _ w' ?_ hM' hw')
        have := count_lt (p := fun k => !listed.getD k true) (q := fun k => !(listed.setIfInBounds j true).getD k true) (fun k hk => by
          by_cases hkj : j = k
          · subst hkj; simp [hjun]
          · rw [getD_set_ne true hkj] at hk; exact hk) (j := j) (by simp [hjun]) (by simp [hjl]) (List.mem_range.2 hjs)
        omega
  refine wp_region_any hm (main ops.size _ a w.drew ?_ ?_ hS)
  · exact Nat.le_trans (List.length_filter_le _ _) (by simp)
  · refine ⟨rfl, rfl, by simp, fun y hy => ?_, fun k o t ho hk _ => ?_, fun t _ => rfl⟩
    · simp [Array.getElem?_replicate] at hy
      split at hy <;> simp at hy
    · simp [Array.getElem?_replicate] at hk
      split at hk <;> simp at hk
/-! The last operations of a statement, each behind all that stand ahead of it in the text: they come in the order of the text. -/

/-- From number m on each operation waits for all ahead of it. -/
def tailOk (ops : Array Oper) (m : Nat) : Bool := (List.range ops.size).all fun j => decide (j < m) || (List.range j).all fun i => ((Region.before ops).getD j 0).testBit i

theorem tailOk_spec {m : Nat} (h : tailOk ops m = true) {j i : Nat} (hj : j < ops.size) (hm : m ≤ j) (hi : i < j) : ((Region.before ops).getD j 0).testBit i = true := by
  have h1 := (List.all_eq_true.1 h) j (List.mem_range.2 hj)
  rw [Bool.or_eq_true] at h1
  rcases h1 with h1 | h1
  · have := of_decide_eq_true h1; omega
  · exact (List.all_eq_true.1 h1) i (List.mem_range.2 hi)

/-- Just the first k have come up. -/
def Upto (ops : Array Oper) (k : Nat) (listed : Array Bool) : Prop := listed.size = ops.size ∧ ∀ i, i < ops.size → (listed.getD i false = true ↔ i < k)

theorem forced {m : Nat} (hok : seqOk ops = true) (ht : tailOk ops m = true) : ∀ (d k fuel : Nat) (listed : Array Bool) (b : Act) (w : World), ops.size - k = d → d ≤ fuel → m ≤ k → k ≤ ops.size → Upto ops k listed →
    (∀ y, listed.getD y false = true → AllMet ops listed y) → wpList P ops Q (ops.toList.drop k) b w → wpAny P .any ops Q fuel listed b w := by
  intro d
  induction d with
  | zero =>
    intro k fuel listed b w hd hf hm hk hu hc h
    have hke : k = ops.size := by omega
    subst hke
    rw [List.drop_of_length_le (by simp)] at h
    have hnil : Region.ready .any ops listed = [] := by
      refine List.eq_nil_iff_forall_not_mem.2 fun j hj => ?_
      obtain ⟨hjun, o, ho, _⟩ := mem_ready.1 hj
      have hjs : j < ops.size := (Array.getElem?_eq_some_iff.1 ho).1
      have hjl : j < listed.size := by rw [hu.1]; exact hjs
      have := (hu.2 j hjs).2 hjs
      simp [hjl] at hjun this
      rw [this] at hjun; cases hjun
    cases fuel with
    | zero => exact ⟨hnil, h⟩
    | succ f => exact ⟨fun _ => h, fun i hi => by rw [hnil] at hi; cases hi⟩
  | succ d ih =>
    intro k fuel listed b w hd hf hm hk hu hc h
    have hks : k < ops.size := by omega
    have hkl : k < listed.size := by rw [hu.1]; exact hks
    cases fuel with
    | zero => omega
    | succ f =>
      have hkun : listed.getD k false ≠ true := fun e => by have := (hu.2 k hks).1 e; omega
      have hkr : k ∈ Region.ready .any ops listed := mem_ready.2 ⟨by simpa [hkl] using hkun, _, Array.getElem?_eq_getElem hks, fun e he hb => by
        have hlt := (seqOk_spec hok (Array.getElem?_eq_getElem hks)).2.1 e he hb
        exact (hu.2 e.on (by omega)).2 (by omega)⟩
      refine ⟨fun hnil => (by rw [hnil] at hkr; cases hkr), fun j hj => ?_⟩
      obtain ⟨hjun, o, ho, hedges⟩ := mem_ready.1 hj
      have hjs : j < ops.size := (Array.getElem?_eq_some_iff.1 ho).1
      have hjl : j < listed.size := by rw [hu.1]; exact hjs
      have hmet : AllMet ops listed j := fun o' ho' e he hb => by
        rw [ho] at ho'
        cases ho'
        exact hedges e he hb
      have hjk : j = k := by
        have h1 : ¬ j < k := fun hlt => by
          have := (hu.2 j hjs).2 hlt
          simp [hjl] at hjun this
          rw [this] at hjun; cases hjun
        by_cases h2 : k < j
        · have := met_bit hc k (j + 1) j (by omega) hjs hmet (tailOk_spec ht hjs (by omega) h2)
          exact absurd this hkun
        · omega
      subst hjk
      have hdrop : ops.toList.drop j = o :: ops.toList.drop (j + 1) := by
        have hl : j < ops.toList.length := by simpa using hjs
        rw [List.drop_eq_getElem_cons hl]
        congr 1
        have := (Array.getElem?_eq_some_iff.1 ho).2
        simpa using this
      rw [hdrop] at h
      have hu' : Upto ops (j + 1) (listed.setIfInBounds j true) := by
        refine ⟨by rw [Array.size_setIfInBounds, hu.1], fun i hi => ?_⟩
        by_cases hij : j = i
        · subst hij; simp [hjl]
        · rw [getD_set_ne false hij, hu.2 i hi]; omega
      have hc' : ∀ y, (listed.setIfInBounds j true).getD y false = true → AllMet ops (listed.setIfInBounds j true) y := fun y hy => by
        intro oy hoy e he hb
        by_cases hyj : j = y
        · subst hyj; exact getD_set_true (hmet oy hoy e he hb)
        · rw [getD_set_ne false hyj] at hy
          exact getD_set_true (hc y hy oy hoy e he hb)
      unfold wpOp
      simp only [ho]
      unfold wpList at h
      split at h
      · rename_i hw
        rw [if_pos hw]
        exact h.imp (Oper.wp_mono fun a' w' h' => ih (j + 1) f _ a' w' (by omega) (by omega) (by omega) (by omega) hu' hc' h') id
      · rename_i hw
        rw [if_neg hw]
        exact ih (j + 1) f _ _ w (by omega) (by omega) (by omega) (by omega) hu' hc' h

/-- **A statement whose order is open, and which ends in operations that wait for all ahead of them (a store, an append): one walk, in the order of the text, is enough.** -/
theorem wp_region_tail (m : Nat) {id : Nat} {a : Act} {w : World} (hm : P.follows .mixedOrders = true) (hok : seqOk ops = true) (ht : tailOk ops m = true) (hms : m ≤ ops.size) (hS : S w.drew)
    (h : Walked P ops S (fun a' => ∀ w', S w' → wpList P ops Q (ops.toList.drop m) a' w') (ops.toList.take m) a) : (Code.region id ops true).wp P Q a w := by
  obtain ⟨A, hA0, hA, hQ⟩ := walked_chain _ _ h
  have hA' : ∀ k o, k < m → ops[k]? = some o → ∃ v, A (k + 1) = (A k).put o.dst v ∧ ∀ (b : Act) (w : World) (K : Act → World → Prop) (Q : Exit → Act → World → Prop), Agree ops o (A k) b → S w →
      (∀ w', S w' → K (b.put o.dst v) w') → (if Region.wanted o (yielded ops b.tmps) then o.wp P b w K Q ∨ (o.asks P b w ∧ LetsOut Q) else K (b.put o.dst undef) w) := fun k o hk ho => by
    obtain ⟨g, d⟩ := hA k o (by rw [List.getElem?_take, if_pos hk]; simpa using ho)
    exact gives_val g d (seqOk_spec hok ho).1 hS
  have hlen : (ops.toList.take m).length = m := by simp [Nat.min_eq_left hms]
  rw [hlen] at hQ
  have asz : ∀ k, k ≤ m → (A k).tmps.size = a.tmps.size ∧ (A k).defers = a.defers := by
    intro k
    induction k with
    | zero => intro _; rw [hA0]; exact ⟨rfl, rfl⟩
    | succ k ih =>
      intro hk
      obtain ⟨v, hv, _⟩ := hA' k _ (by omega) (Array.getElem?_eq_getElem (show k < ops.size by omega))
      obtain ⟨i1, i2⟩ := ih (by omega)
      rw [hv, put_size, put_defs]; exact ⟨i1, i2⟩
  have far : ∀ k t n, k ≤ n → n ≤ m → (∀ i o, k ≤ i → i < n → ops[i]? = some o → o.dst ≠ some t) → (A n).tmps[t]? = (A k).tmps[t]? := by
    intro k t n
    induction n with
    | zero => intro h1 _ _; rw [show k = 0 by omega]
    | succ n ih =>
      intro h1 h2 hno
      by_cases hkm : k = n + 1
      · rw [hkm]
      · obtain ⟨v, hv, _⟩ := hA' n _ (by omega) (Array.getElem?_eq_getElem (show n < ops.size by omega))
        rw [hv, put_ne (hno n _ (by omega) (by omega) (Array.getElem?_eq_getElem (show n < ops.size by omega)))]
        exact ih (by omega) (by omega) (fun i o hi hi' ho => hno i o hi (by omega) ho)
  have unlike : ∀ (i j : Nat) (oi oj : Oper) (t : Tmp), ops[i]? = some oi → ops[j]? = some oj → oi.dst = some t → oj.dst = some t → i = j := by
    intro i j oi oj t hi hj ti tj
    by_cases e : i = j
    · exact e
    · exact absurd tj (((seqOk_spec hok hj).2.2 i oi hi e t ti).1)
  have main : ∀ (fuel : Nat) (listed : Array Bool) (b : Act) (w : World), ((List.range m).filter (fun k => !listed.getD k true)).length + (ops.size - m) ≤ fuel →
      Midway ops a (A m) listed b → (∀ k, listed.getD k false = true → k < m) → S w → wpAny P .any ops Q fuel listed b w := by
    intro fuel
    induction fuel with
    | zero =>
      intro listed b w hf hM hin hw
      have hall : ∀ k, k < m → listed.getD k false = true := by
        intro k hk
        have hnil : (List.range m).filter (fun k => !listed.getD k true) = [] := List.length_eq_zero_iff.1 (by omega)
        have := (List.filter_eq_nil_iff.1 hnil) k (List.mem_range.2 hk)
        have hkl : k < listed.size := by rw [hM.len]; omega
        simpa [hkl] using this
      have hfin : b = A m := by
        refine act_ext (Array.ext_getElem? fun t => ?_) (by rw [hM.defers, (asz _ (Nat.le_refl _)).2])
        by_cases hx : ∃ (k : Nat) (o : Oper), k < m ∧ ops[k]? = some o ∧ o.dst = some t
        · obtain ⟨k, o, hk, ho, ht⟩ := hx
          exact hM.done k o t ho (hall k hk) ht
        · rw [hM.left t (fun k o ho hl ht => hx ⟨k, o, hin k hl, ho, ht⟩), far 0 t m (by omega) (Nat.le_refl _) (fun i o _ hi ho ht => hx ⟨i, o, hi, ho, ht⟩), hA0]
      rw [hfin]
      exact forced hok ht (ops.size - m) m 0 listed _ w rfl (by omega) (Nat.le_refl _) hms ⟨hM.len, fun i _ => ⟨fun e => hin i e, fun e => hall i e⟩⟩ hM.closed (hQ w hw)
    | succ fuel ih =>
      intro listed b w hf hM hin hw
      by_cases hall : ∀ k, k < m → listed.getD k false = true
      · have hfin : b = A m := by
          refine act_ext (Array.ext_getElem? fun t => ?_) (by rw [hM.defers, (asz _ (Nat.le_refl _)).2])
          by_cases hx : ∃ (k : Nat) (o : Oper), k < m ∧ ops[k]? = some o ∧ o.dst = some t
          · obtain ⟨k, o, hk, ho, ht⟩ := hx
            exact hM.done k o t ho (hall k hk) ht
          · rw [hM.left t (fun k o ho hl ht => hx ⟨k, o, hin k hl, ho, ht⟩), far 0 t m (by omega) (Nat.le_refl _) (fun i o _ hi ho ht => hx ⟨i, o, hi, ho, ht⟩), hA0]
        rw [hfin]
        exact forced hok ht (ops.size - m) m (fuel + 1) listed _ w rfl (by omega) (Nat.le_refl _) hms ⟨hM.len, fun i _ => ⟨fun e => hin i e, fun e => hall i e⟩⟩ hM.closed (hQ w hw)
      · refine ⟨fun hnil => absurd ?_ hall, fun j hj => ?_⟩
        · -- nothing may come up: then all has
          have hall' : ∀ n k, k < n → k < m → listed.getD k false = true := by
            intro n
            induction n with
            | zero => intro k hk; omega
            | succ n ihn =>
              intro k hk hs
              by_cases hl : listed.getD k false = true
              · exact hl
              · exfalso
                have hks : k < ops.size := by omega
                have hkl : k < listed.size := by rw [hM.len]; exact hks
                have hmem : k ∈ Region.ready .any ops listed := mem_ready.2 ⟨by simpa [hkl] using hl, _, Array.getElem?_eq_getElem hks, fun e he hb => by
                  have hlt := (seqOk_spec hok (Array.getElem?_eq_getElem hks)).2.1 e he hb
                  exact ihn e.on (by omega) (by omega)⟩
                rw [hnil] at hmem
                cases hmem
          exact fun k hk => hall' _ k (Nat.lt_succ_self k) hk
        · obtain ⟨hjun, o, ho, hedges⟩ := mem_ready.1 hj
          have hjs : j < ops.size := (Array.getElem?_eq_some_iff.1 ho).1
          have hjl : j < listed.size := by rw [hM.len]; exact hjs
          have hjun' : listed.getD j false = false := by simpa [hjl] using hjun
          have hmet : AllMet ops listed j := fun o' ho' e he hb => by
            rw [ho] at ho'
            cases ho'
            exact hedges e he hb
          have hjm : j < m := by
            refine Nat.lt_of_not_le fun hle => hall fun k hk => ?_
            exact met_bit hM.closed k (j + 1) j (by omega) hjs hmet (tailOk_spec ht hjs hle (by omega))
          obtain ⟨v, hv, step⟩ := hA' j o hjm ho
          have hag : Agree ops o (A j) b := by
            refine ⟨by rw [hM.size, (asz j (by omega)).1], fun t ht => ?_⟩
            by_cases hx : ∃ (i : Nat) (oi : Oper), ops[i]? = some oi ∧ oi.dst = some t
            · obtain ⟨i, oi, hi, hti⟩ := hx
              by_cases hij : i = j
              · rw [hM.left t (fun k ok hk hlk htk => by
                  have : k = i := unlike k i ok oi t hk hi htk hti
                  rw [this, hij, hjun'] at hlk
                  cases hlk), far 0 t j (by omega) (by omega) (fun k ok _ hk hok' htk => by
                  have : k = i := unlike k i ok oi t hok' hi htk hti
                  omega), hA0]
              · rcases ((seqOk_spec hok ho).2.2 i oi hi hij t hti).2 ht with ⟨hlt, hbit⟩ | ⟨hlt, hbit⟩
                · have hli := met_bit hM.closed i (j + 1) j (by omega) hjs hmet hbit
                  rw [hM.done i oi t hi hli hti]
                  exact far j t m (by omega) (Nat.le_refl _) (fun k ok hk _ hok' htk => by
                    have : k = i := unlike k i ok oi t hok' hi htk hti
                    omega)
                · have hun : listed.getD i false ≠ true := fun hli => by
                    have his : i < ops.size := (Array.getElem?_eq_some_iff.1 hi).1
                    have := met_bit hM.closed j (i + 1) i (by omega) his (hM.closed i hli) hbit
                    rw [hjun'] at this
                    cases this
                  rw [hM.left t (fun k ok hk hlk htk => by
                    have : k = i := unlike k i ok oi t hk hi htk hti
                    rw [this] at hlk
                    exact hun hlk), far 0 t j (by omega) (by omega) (fun k ok _ hk hok' htk => by
                    have : k = i := unlike k i ok oi t hok' hi htk hti
                    omega), hA0]
            · rw [hM.left t (fun k ok hk _ htk => hx ⟨k, ok, hk, htk⟩), far 0 t j (by omega) (by omega) (fun k ok _ _ hk htk => hx ⟨k, ok, hk, htk⟩), hA0]
          have hM' : Midway ops a (A m) (listed.setIfInBounds j true) (b.put o.dst v) := by
            refine ⟨by rw [put_size, hM.size], by rw [put_defs, hM.defers], by rw [Array.size_setIfInBounds, hM.len], fun y hy => ?_, fun k ok t hk hlk htk => ?_, fun t hno => ?_⟩
            · intro oy hoy e he hb
              by_cases hyj : j = y
              · subst hyj
                exact getD_set_true (hmet oy hoy e he hb)
              · rw [getD_set_ne false hyj] at hy
                exact getD_set_true (hM.closed y hy oy hoy e he hb)
            · by_cases hkj : j = k
              · subst hkj
                rw [ho] at hk
                cases hk
                rw [htk, put_at (b := A j) (by rw [hM.size, (asz j (by omega)).1]), ← htk, ← hv]
                exact (far (j + 1) t m (by omega) (Nat.le_refl _) (fun i oi hi _ hoi hti => by
                  have : i = j := unlike i j oi o t hoi ho hti htk
                  omega)).symm
              · rw [getD_set_ne false hkj] at hlk
                rw [put_ne (fun e => hkj (unlike j k o ok t ho hk e htk))]
                exact hM.done k ok t hk hlk htk
            · have hjt : o.dst ≠ some t := hno j o ho (by simp [hjl])
              rw [put_ne hjt]
              refine hM.left t (fun k ok hk hlk => hno k ok hk ?_)
              exact getD_set_true hlk
          unfold wpOp
          simp only [ho]
          refine step b w _ Q hag hw (fun w' hw' => ih _ _ w' ?_ hM' (fun k hk => ?_) hw')
          · have := count_lt (p := fun k => !listed.getD k true) (q := fun k => !(listed.setIfInBounds j true).getD k true) (fun k hk => by
              by_cases hkj : j = k
              · subst hkj; simp [hjun]
              · rw [getD_set_ne true hkj] at hk; exact hk) (j := j) (by simp [hjun]) (by simp [hjl]) (List.mem_range.2 hjm)
            omega
          · by_cases hkj : j = k
            · omega
            · rw [getD_set_ne false hkj] at hk
              exact hin k hk
  refine wp_region_any hm (main ops.size _ a w.drew ?_ ?_ ?_ hS)
  · have := List.length_filter_le (fun k => !(Array.replicate ops.size false).getD k true) (List.range m)
    simp only [List.length_range] at this
    omega
  · refine ⟨rfl, rfl, by simp, fun y hy => ?_, fun k o t ho hk _ => ?_, fun t _ => rfl⟩
    · simp [Array.getElem?_replicate] at hy
      split at hy <;> simp at hy
    · simp [Array.getElem?_replicate] at hk
      split at hk <;> simp at hk
  · intro k hk
    simp [Array.getElem?_replicate] at hk
    split at hk <;> simp at hk

/-- The same walk of a statement whose order is that of the text. -/
theorem wpList_walked (hs : ∀ (j : Nat) (o : Oper), ops[j]? = some o → ∀ cs c, o.op ≠ .select cs c) : ∀ (l : List Oper) (a : Act) (w : World), (∀ o ∈ l, ∃ j : Nat, ops[j]? = some o) → S w →
    Walked P ops S (Later S Q) l a → wpList P ops Q l a w
  | [], a, w, _, hS, h => h w hS
  | o :: r, a, w, hm, hS, ⟨a', hg, hd, hr⟩ => by
    obtain ⟨j, hj⟩ := hm o List.mem_cons_self
    obtain ⟨v, hv, step⟩ := gives_val hg hd (hs j o hj) hS
    have h1 := step a w (wpList P ops Q r) Q ⟨rfl, fun _ _ => rfl⟩ hS (fun w' hS' => by
      rw [← hv]
      exact wpList_walked hs r a' w' (fun o' ho' => hm o' (List.mem_cons_of_mem _ ho')) hS' hr)
    unfold wpList
    exact h1

theorem wp_region_walked0 {id : Nat} {a : Act} {w : World} (hs : Region.noSelect ops = true) (hS : S w) (h : Walked P ops S (Later S Q) ops.toList a) : (Code.region id ops false).wp P Q a w :=
  wp_region_list (wpList_walked (fun j o ho cs c => Region.noSelect_spec hs j o cs c ho) ops.toList a w (fun o ho => by
    obtain ⟨j, hj⟩ := List.mem_iff_getElem?.1 ho
    exact ⟨j, by simpa using hj⟩) hS h)

/-- An operation whose guard is not decided: its value, or none. -/
theorem gives_guard {o : Oper} {a : Act} {v : Value} (x : Bool) (hw : Region.wanted o (yielded ops a.tmps) = x) (h : x = true → Gives P ops S { o with guard := none } a (a.put o.dst v)) :
    Gives P ops S o a (a.put o.dst (bif x then v else undef)) := by
  intro w hS
  unfold wpList
  cases x with
  | true =>
    rw [if_pos hw]
    have h1 := h rfl w hS
    unfold wpList at h1
    rw [if_pos (by simp [Region.wanted])] at h1
    exact h1
  | false =>
    rw [if_neg (by rw [hw]; simp)]
    exact ⟨rfl, rfl, hS⟩

theorem wanted_yes {o : Oper} {a : Act} {j : Nat} {t : Tmp} {b : Bool} (hg : o.guard = some (j, true)) (ht : (ops[j]?).bind (·.dst) = some t) (hb : a.tmps[t]? = some (.bool b)) :
    Region.wanted o (yielded ops a.tmps) = b := by simp [Region.wanted, hg, yielded, ht, hb]
theorem wanted_no {o : Oper} {a : Act} {j : Nat} {t : Tmp} {b : Bool} (hg : o.guard = some (j, false)) (ht : (ops[j]?).bind (·.dst) = some t) (hb : a.tmps[t]? = some (.bool b)) :
    Region.wanted o (yielded ops a.tmps) = !b := by cases b <;> simp [Region.wanted, hg, yielded, ht, hb]

theorem wanted_yes2 {o : Oper} {a : Act} {j : Nat} {t : Tmp} {b g : Bool} (hg : o.guard = some (j, true)) (ht : (ops[j]?).bind (·.dst) = some t) (hb : a.tmps[t]? = some (bif g then .bool b else undef)) :
    Region.wanted o (yielded ops a.tmps) = (g && b) := by cases g <;> simp [Region.wanted, hg, yielded, ht, hb, undef]
theorem wanted_no2 {o : Oper} {a : Act} {j : Nat} {t : Tmp} {b g : Bool} (hg : o.guard = some (j, false)) (ht : (ops[j]?).bind (·.dst) = some t) (hb : a.tmps[t]? = some (bif g then .bool b else undef)) :
    Region.wanted o (yielded ops a.tmps) = (g && !b) := by cases g <;> cases b <;> simp [Region.wanted, hg, yielded, ht, hb, undef]

/-- '&&' and '||' whose left side is not decided. -/
theorem gives_and {o : Oper} {a : Act} {t u : Tmp} {p q : Bool} (ho : o.op = .pick (.tmp t) (.tmp u) (.const (.bool false))) (hg : o.guard = none) (ht : a.tmps[t]? = some (.bool p))
    (hu : a.tmps[u]? = some (bif p then .bool q else undef)) : Gives P ops S o a (a.put o.dst (.bool (p && q))) := by
  intro w hS
  unfold wpList
  rw [if_pos (by simp [Region.wanted, hg])]
  refine .inl ?_
  unfold Oper.wp
  have hr : (execOp a.eval o).run P w = .ok (.value (.bool (p && q))) w := by
    unfold execOp
    rw [ho]
    cases p <;> simp [Act.eval, ht, hu, asBool]
  rw [hr]
  exact ⟨rfl, rfl, hS⟩
theorem gives_or {o : Oper} {a : Act} {t u : Tmp} {p q : Bool} (ho : o.op = .pick (.tmp t) (.const (.bool true)) (.tmp u)) (hg : o.guard = none) (ht : a.tmps[t]? = some (.bool p))
    (hu : a.tmps[u]? = some (bif !p then .bool q else undef)) : Gives P ops S o a (a.put o.dst (.bool (p || q))) := by
  intro w hS
  unfold wpList
  rw [if_pos (by simp [Region.wanted, hg])]
  refine .inl ?_
  unfold Oper.wp
  have hr : (execOp a.eval o).run P w = .ok (.value (.bool (p || q))) w := by
    unfold execOp
    rw [ho]
    cases p <;> simp [Act.eval, ht, hu, asBool]
  rw [hr]
  exact ⟨rfl, rfl, hS⟩

theorem walked_cons {Qf : Act → Prop} {o : Oper} {r : List Oper} {a a' : Act} (hg : Gives P ops S o a a') (hd : a'.defers = a.defers) (hr : Walked P ops S Qf r a') : Walked P ops S Qf (o :: r) a := ⟨a', hg, hd, hr⟩
theorem walked_nil {Qf : Act → Prop} {a : Act} (h : Qf a) : Walked P ops S Qf [] a := h
end

end Go.Proofs.Ytfiofjalpaeohaa
