/- Texts on the way to the statement NestedThrough, several in one file: each part says what it is. -/
import Derived.Test.YtlbehhbicmmdoaaKTB
import Derived.Test.YtlbehhbicmmdoaaKTC
import Derived.Test.YtlbehhbicmmdoaaKTD
/- As Stage; and each operation is told that its predecessors have come. No function of the program stands here. -/
namespace Go.Proofs.Ytlbehhbicmmdoaa
set_option linter.unusedVariables false
set_option linter.unusedSimpArgs false
open Go.RowKit
section
variable {P : Program} {ops : Array Oper} {S : Array Bool → World → Prop} {Q : Exit → Act → World → Prop}
/-- Operation number j (of n) comes to the frame a', wherever it comes up. -/
def GivesM (P : Program) (ops : Array Oper) (S : Array Bool → World → Prop) (n j : Nat) (o : Oper) (a a' : Act) : Prop :=
  ∀ (l : Array Bool) (w : World), l.size = n → l.getD j false = false → AllMet ops l j → S l w → wpList P ops (Fin (S (l.setIfInBounds j true)) a') [o] a w
/-- The operations one by one, in the order of the text. -/
def WalkedM (P : Program) (ops : Array Oper) (S : Array Bool → World → Prop) (n : Nat) (Q : Act → Prop) : List Oper → Nat → Act → Prop
  | [], _, a => Q a
  | o :: r, j, a => ∃ a', GivesM P ops S n j o a a' ∧ a'.defers = a.defers ∧ WalkedM P ops S n Q r (j + 1) a'
/-- What an operation gives at one frame it gives at every frame that agrees on what it looks at. -/
theorem gives_valsM {n j : Nat} {o : Oper} {a a' : Act} (h : GivesM P ops S n j o a a') (hd : a'.defers = a.defers) (hs : ∀ cs c, o.op ≠ .select cs c) {l0 : Array Bool} {w0 : World} (z0 : l0.size = n) (n0 : l0.getD j false = false) (m0 : AllMet ops l0 j) (h0 : S l0 w0) :
    ∃ v, a' = a.put o.dst v ∧ (∃ w1, S (l0.setIfInBounds j true) w1) ∧ ∀ (l : Array Bool) (b : Act) (w : World) (K : Act → World → Prop) (Q : Exit → Act → World → Prop), Agree ops o a b → l.size = n → l.getD j false = false → AllMet ops l j → S l w → (∀ w', S (l.setIfInBounds j true) w' → K (b.put o.dst v) w') →
      (if Region.wanted o (yielded ops b.tmps) then o.wp P b w K Q ∨ (o.asks P b w ∧ LetsOut Q) else K (b.put o.dst undef) w) := by
  by_cases hw : Region.wanted o (yielded ops a.tmps) = true
  · -- what it comes to in a world of S
    have key : ∀ l w, l.size = n → l.getD j false = false → AllMet ops l j → S l w → o.wp P a w (fun a'' w' => a'' = a' ∧ S (l.setIfInBounds j true) w') (fun _ _ _ => False) := by
      intro l w hz hn hm hS
      have h1 := h l w hz hn hm hS
      unfold wpList at h1
      rw [if_pos hw] at h1
      rcases h1 with h1 | ⟨_, a1, w1, h1, _⟩
      · unfold Oper.wp at h1 ⊢
        generalize (execOp a.eval o).run P w = r at h1 ⊢
        cases r with
        | ok n w' =>
          cases n with
          | value v => exact h1.2
          | skip => exact h1.2
          | defer d => exact h1.2
          | enter f args =>
            simp only [Oper.upon] at h1 ⊢
            refine Calls.mono h1 fun e w'' he => ?_
            cases e with
            | returned v => exact he.2
            | panicked c => exact absurd he.1 (by simp)
            | outgrown => obtain ⟨_, _, h2, _⟩ := he; exact absurd h2 (by simp)
          | row row args =>
            simp only [Oper.upon] at h1 ⊢
            exact Rows.mono h1 fun v w'' he => he.2
          | _ => exact (h1 : False).elim
        | halt x w' =>
          cases x <;> simp only [Oper.upon] at h1 ⊢ <;> first | exact h1 | exact absurd h1.1 (by simp)
      · exact absurd h1 (by simp)
    have nodefer : ∀ d, ({ a with defers := d :: a.defers } : Act).put o.dst undef ≠ a' := by
      intro d e
      have h1 := congrArg Act.defers e
      rw [hd] at h1
      have h2 : (({ a with defers := d :: a.defers } : Act).put o.dst undef).defers = d :: a.defers := by cases o.dst <;> rfl
      rw [h2] at h1
      have := congrArg List.length h1
      simp at this
    -- the value
    have hv : ∃ v, a' = a.put o.dst v ∧ ∃ w1, S (l0.setIfInBounds j true) w1 := by
      have k0 := key l0 w0 z0 n0 m0 h0
      unfold Oper.wp at k0
      generalize (execOp a.eval o).run P w0 = r at k0
      cases r with
      | ok n w' =>
        cases n with
        | value v => exact ⟨v, k0.1.symm, _, k0.2⟩
        | skip => exact ⟨undef, k0.1.symm, _, k0.2⟩
        | defer d => exact absurd k0.1 (nodefer d)
        | enter f args =>
          simp only [Oper.upon] at k0
          obtain ⟨e, w'', fr, hr, _⟩ := k0 []
          cases e with
          | returned v => exact ⟨v, hr.1.symm, _, hr.2⟩
          | panicked c => exact hr.elim
          | outgrown => obtain ⟨_, _, h2⟩ := hr; exact h2.elim
        | row row args =>
          simp only [Oper.upon] at k0
          obtain ⟨v, w'', hr, _⟩ := k0 default []
          exact ⟨v, hr.1.symm, _, hr.2⟩
        | _ => exact (k0 : False).elim
      | halt x w' => cases x <;> simp only [Oper.upon] at k0
    obtain ⟨v, hv, hw1⟩ := hv
    refine ⟨v, hv, hw1, fun l b w K Q hab hz hn hm hS hK => ?_⟩
    rw [agree_wanted hab, if_pos hw]
    refine .inl ?_
    have k := key l w hz hn hm hS
    unfold Oper.wp at k ⊢
    rw [agree_eval hab hs]
    have same : ∀ u, a.put o.dst u = a' → b.put o.dst u = b.put o.dst v := fun u hu => put_same hab.1 (hu.trans hv)
    generalize (execOp a.eval o).run P w = r at k ⊢
    cases r with
    | ok n w' =>
      cases n with
      | value u => show K _ _; rw [same u k.1]; exact hK _ k.2
      | skip => show K _ _; rw [same undef k.1]; exact hK _ k.2
      | defer d => exact absurd k.1 (nodefer d)
      | enter f args =>
        simp only [Oper.upon] at k ⊢
        refine Calls.mono k fun e w'' he => ?_
        cases e with
        | returned u => show K _ _; rw [same u he.1]; exact hK _ he.2
        | panicked c => exact he.elim
        | outgrown => obtain ⟨_, _, h2⟩ := he; exact h2.elim
      | row row args =>
        simp only [Oper.upon] at k ⊢
        refine Rows.mono k fun u w'' he => ?_
        rw [same u he.1]; exact hK _ he.2
      | _ => exact (k : False).elim
    | halt x w' => cases x <;> simp only [Oper.upon] at k
  · have hw' : Region.wanted o (yielded ops a.tmps) = false := by simpa using hw
    refine ⟨undef, ?_, ?_, fun l b w K Q hab hz hn hm hS hK => ?_⟩
    · have h1 := h l0 w0 z0 n0 m0 h0
      unfold wpList at h1
      rw [if_neg hw] at h1
      exact h1.2.1.symm
    · have h1 := h l0 w0 z0 n0 m0 h0
      unfold wpList at h1
      rw [if_neg hw] at h1
      exact ⟨_, h1.2.2⟩
    · rw [agree_wanted hab, if_neg hw]
      have h1 := h l w hz hn hm hS
      unfold wpList at h1
      rw [if_neg hw] at h1
      exact hK w h1.2.2
theorem walkedM_chain {n : Nat} {Qf : Act → Prop} (hord : ∀ (j : Nat) (o : Oper) e, ops[j]? = some o → e ∈ o.after → Region.binds .any e = true → e.on < j) : ∀ {L : List Oper} (_ : ∀ (j : Nat) (o : Oper), L[j]? = some o → ∀ cs c, o.op ≠ .select cs c) (a : Act) (l0 : Array Bool) (w0 : World) {j0 : Nat}, l0.size = n → (∀ i, j0 ≤ i → l0.getD i false = false) → (∀ i, i < j0 → l0.getD i false = true) → j0 + L.length ≤ n → S l0 w0 →
    WalkedM P ops S n Qf L j0 a →
    ∃ A : Nat → Act, A 0 = a ∧ (∀ k o, L[k]? = some o → ∃ v, A (k + 1) = (A k).put o.dst v ∧ ∀ (l : Array Bool) (b : Act) (w : World) (K : Act → World → Prop) (Q : Exit → Act → World → Prop), Agree ops o (A k) b → l.size = n → l.getD (j0 + k) false = false → AllMet ops l (j0 + k) → S l w →
      (∀ w', S (l.setIfInBounds (j0 + k) true) w' → K (b.put o.dst v) w') → (if Region.wanted o (yielded ops b.tmps) then o.wp P b w K Q ∨ (o.asks P b w ∧ LetsOut Q) else K (b.put o.dst undef) w)) ∧ Qf (A L.length) := by
  intro L
  induction L with
  | nil => intro _ a l0 w0 j0 _ _ _ _ _ h; exact ⟨fun _ => a, rfl, fun k o hk => by simp at hk, h⟩
  | cons o L ih =>
    intro hs a l0 w0 j0 hz hn hdone hlen h0 h
    obtain ⟨a', hg, hd, hr⟩ := h
    obtain ⟨v, hv, ⟨w1, h1⟩, step⟩ := gives_valsM hg hd (hs 0 o rfl) hz (hn j0 (Nat.le_refl _)) (fun o' ho' e he hb => hdone e.on (hord j0 o' e ho' he hb)) h0
    obtain ⟨A, hA0, hA1, hA2⟩ := ih (fun j o' ho' => hs (j + 1) o' (by simpa using ho')) a' (l0.setIfInBounds j0 true) w1 (j0 := j0 + 1) (by rw [Array.size_setIfInBounds, hz]) (fun i hi => by
      rw [getD_set_ne false (by omega)]; exact hn i (by omega)) (fun i hi => by
      rw [List.length_cons] at hlen
      by_cases e : j0 = i
      · subst e; simp [hz]; omega
      · rw [getD_set_ne false e]; exact hdone i (by omega)) (by rw [List.length_cons] at hlen; omega) h1 hr
    refine ⟨fun k => match k with | 0 => a | k + 1 => A k, rfl, fun k o' hk => ?_, hA2⟩
    cases k with
    | zero =>
      simp at hk
      subst hk
      exact ⟨v, by show A 0 = a.put o.dst v; rw [hA0]; exact hv, step⟩
    | succ k =>
      have := hA1 k o' (by simpa using hk)
      rw [show j0 + 1 + k = j0 + (k + 1) by omega] at this
      exact this
/-- **A statement whose order is open, and which ends in operations that wait for all ahead of them (a store, an append): one walk, in the order of the text, is enough.** -/
theorem wp_region_met (m : Nat) {id : Nat} {a : Act} {w : World} (hm : P.follows .mixedOrders = true) (hok : seqOk ops = true) (ht : tailOk ops m = true) (hms : m ≤ ops.size) (hS : S (Array.replicate ops.size false) w.drew)
    (h : WalkedM P ops S ops.size (fun a' => ∀ l w', l.size = ops.size → (∀ k, k < m → l.getD k false = true) → S l w' → wpList P ops Q (ops.toList.drop m) a' w') (ops.toList.take m) 0 a) : (Code.region id ops true).wp P Q a w := by
  obtain ⟨A, hA0, hA, hQ⟩ := walkedM_chain (fun j o e ho he hb => (seqOk_spec hok ho).2.1 e he hb) (fun j o ho => (seqOk_spec (j := j) hok (by rw [List.getElem?_take] at ho; split at ho; (· simpa using ho); (· cases ho))).1) _ _ _ (by simp) (fun i _ => by simp [Array.getElem?_replicate]; split <;> rfl) (fun i hi => absurd hi (Nat.not_lt_zero _)) (by simp [Nat.min_eq_left hms]; omega) hS h
  have hA' : ∀ k o, k < m → ops[k]? = some o → ∃ v, A (k + 1) = (A k).put o.dst v ∧ ∀ (l : Array Bool) (b : Act) (w : World) (K : Act → World → Prop) (Q : Exit → Act → World → Prop), Agree ops o (A k) b → l.size = ops.size → l.getD k false = false → AllMet ops l k → S l w →
      (∀ w', S (l.setIfInBounds k true) w' → K (b.put o.dst v) w') → (if Region.wanted o (yielded ops b.tmps) then o.wp P b w K Q ∨ (o.asks P b w ∧ LetsOut Q) else K (b.put o.dst undef) w) := fun k o hk ho => by
    simpa using hA k o (by rw [List.getElem?_take, if_pos hk]; simpa using ho)
  have hlen : (ops.toList.take m).length = m := by simp [Nat.min_eq_left hms]
  rw [hlen] at hQ
  have asz : ∀ k, k ≤ m → (A k).tmps.size = a.tmps.size ∧ (A k).defers = a.defers := by
    intro k
    induction k with
    | zero => intro _; rw [hA0]; exact ⟨rfl, rfl⟩
    | succ k ih =>
      intro hk
      obtain ⟨v, hv, _⟩ := hA' k _ (by omega) (Array.getElem?_eq_getElem (show k < ops.size by omega))
      obtain ⟨i1, i2⟩ := ih (by omega)
      rw [hv, put_size, put_defs]; exact ⟨i1, i2⟩
  have far : ∀ k t n, k ≤ n → n ≤ m → (∀ i o, k ≤ i → i < n → ops[i]? = some o → o.dst ≠ some t) → (A n).tmps[t]? = (A k).tmps[t]? := by
    intro k t n
    induction n with
    | zero => intro h1 _ _; rw [show k = 0 by omega]
    | succ n ih =>
      intro h1 h2 hno
      by_cases hkm : k = n + 1
      · rw [hkm]
      · obtain ⟨v, hv, _⟩ := hA' n _ (by omega) (Array.getElem?_eq_getElem (show n < ops.size by omega))
        rw [hv, put_ne (hno n _ (by omega) (by omega) (Array.getElem?_eq_getElem (show n < ops.size by omega)))]
        exact ih (by omega) (by omega) (fun i o hi hi' ho => hno i o hi (by omega) ho)
  have unlike : ∀ (i j : Nat) (oi oj : Oper) (t : Tmp), ops[i]? = some oi → ops[j]? = some oj → oi.dst = some t → oj.dst = some t → i = j := by
    intro i j oi oj t hi hj ti tj
    by_cases e : i = j
    · exact e
    · exact absurd tj (((seqOk_spec hok hj).2.2 i oi hi e t ti).1)
  have main : ∀ (fuel : Nat) (listed : Array Bool) (b : Act) (w : World), ((List.range m).filter (fun k => !listed.getD k true)).length + (ops.size - m) ≤ fuel →
      Midway ops a (A m) listed b → (∀ k, listed.getD k false = true → k < m) → S listed w → wpAny P .any ops Q fuel listed b w := by
    intro fuel
    induction fuel with
    | zero =>
      intro listed b w hf hM hin hw
      have hall : ∀ k, k < m → listed.getD k false = true := by
        intro k hk
        have hnil : (List.range m).filter (fun k => !listed.getD k true) = [] := List.length_eq_zero_iff.1 (by omega)
        have := (List.filter_eq_nil_iff.1 hnil) k (List.mem_range.2 hk)
        have hkl : k < listed.size := by rw [hM.len]; omega
        simpa [hkl] using this
      have hfin : b = A m := by
        refine act_ext (Array.ext_getElem? fun t => ?_) (by rw [hM.defers, (asz _ (Nat.le_refl _)).2])
        by_cases hx : ∃ (k : Nat) (o : Oper), k < m ∧ ops[k]? = some o ∧ o.dst = some t
        · obtain ⟨k, o, hk, ho, ht⟩ := hx
          exact hM.done k o t ho (hall k hk) ht
        · rw [hM.left t (fun k o ho hl ht => hx ⟨k, o, hin k hl, ho, ht⟩), far 0 t m (by omega) (Nat.le_refl _) (fun i o _ hi ho ht => hx ⟨i, o, hi, ho, ht⟩), hA0]
      rw [hfin]
      exact forced hok ht (ops.size - m) m 0 listed _ w rfl (by omega) (Nat.le_refl _) hms ⟨hM.len, fun i _ => ⟨fun e => hin i e, fun e => hall i e⟩⟩ hM.closed (hQ listed w hM.len hall hw)
    | succ fuel ih =>
      intro listed b w hf hM hin hw
      by_cases hall : ∀ k, k < m → listed.getD k false = true
      · have hfin : b = A m := by
          refine act_ext (Array.ext_getElem? fun t => ?_) (by rw [hM.defers, (asz _ (Nat.le_refl _)).2])
          by_cases hx : ∃ (k : Nat) (o : Oper), k < m ∧ ops[k]? = some o ∧ o.dst = some t
          · obtain ⟨k, o, hk, ho, ht⟩ := hx
            exact hM.done k o t ho (hall k hk) ht
          · rw [hM.left t (fun k o ho hl ht => hx ⟨k, o, hin k hl, ho, ht⟩), far 0 t m (by omega) (Nat.le_refl _) (fun i o _ hi ho ht => hx ⟨i, o, hi, ho, ht⟩), hA0]
        rw [hfin]
        exact forced hok ht (ops.size - m) m (fuel + 1) listed _ w rfl (by omega) (Nat.le_refl _) hms ⟨hM.len, fun i _ => ⟨fun e => hin i e, fun e => hall i e⟩⟩ hM.closed (hQ listed w hM.len hall hw)
      · refine ⟨fun hnil => absurd ?_ hall, fun j hj => ?_⟩
        · -- nothing may come up: then all has
          have hall' : ∀ n k, k < n → k < m → listed.getD k false = true := by
            intro n
            induction n with
            | zero => intro k hk; omega
            | succ n ihn =>
              intro k hk hs
              by_cases hl : listed.getD k false = true
              · exact hl
              · exfalso
                have hks : k < ops.size := by omega
                have hkl : k < listed.size := by rw [hM.len]; exact hks
                have hmem : k ∈ Region.ready .any ops listed := mem_ready.2 ⟨by simpa [hkl] using hl, _, Array.getElem?_eq_getElem hks, fun e he hb => by
                  have hlt := (seqOk_spec hok (Array.getElem?_eq_getElem hks)).2.1 e he hb
                  exact ihn e.on (by omega) (by omega)⟩
                rw [hnil] at hmem
                cases hmem
          exact fun k hk => hall' _ k (Nat.lt_succ_self k) hk
        · obtain ⟨hjun, o, ho, hedges⟩ := mem_ready.1 hj
          have hjs : j < ops.size := (Array.getElem?_eq_some_iff.1 ho).1
          have hjl : j < listed.size := by rw [hM.len]; exact hjs
          have hjun' : listed.getD j false = false := by simpa [hjl] using hjun
          have hmet : AllMet ops listed j := fun o' ho' e he hb => by
            rw [ho] at ho'
            cases ho'
            exact hedges e he hb
          have hjm : j < m := by
            refine Nat.lt_of_not_le fun hle => hall fun k hk => ?_
            exact met_bit hM.closed k (j + 1) j (by omega) hjs hmet (tailOk_spec ht hjs hle (by omega))
          obtain ⟨v, hv, step⟩ := hA' j o hjm ho
          have hag : Agree ops o (A j) b := by
            refine ⟨by rw [hM.size, (asz j (by omega)).1], fun t ht => ?_⟩
            by_cases hx : ∃ (i : Nat) (oi : Oper), ops[i]? = some oi ∧ oi.dst = some t
            · obtain ⟨i, oi, hi, hti⟩ := hx
              by_cases hij : i = j
              · rw [hM.left t (fun k ok hk hlk htk => by
                  have : k = i := unlike k i ok oi t hk hi htk hti
                  rw [this, hij, hjun'] at hlk
                  cases hlk), far 0 t j (by omega) (by omega) (fun k ok _ hk hok' htk => by
                  have : k = i := unlike k i ok oi t hok' hi htk hti
                  omega), hA0]
              · rcases ((seqOk_spec hok ho).2.2 i oi hi hij t hti).2 ht with ⟨hlt, hbit⟩ | ⟨hlt, hbit⟩
                · have hli := met_bit hM.closed i (j + 1) j (by omega) hjs hmet hbit
                  rw [hM.done i oi t hi hli hti]
                  exact far j t m (by omega) (Nat.le_refl _) (fun k ok hk _ hok' htk => by
                    have : k = i := unlike k i ok oi t hok' hi htk hti
                    omega)
                · have hun : listed.getD i false ≠ true := fun hli => by
                    have his : i < ops.size := (Array.getElem?_eq_some_iff.1 hi).1
                    have := met_bit hM.closed j (i + 1) i (by omega) his (hM.closed i hli) hbit
                    rw [hjun'] at this
                    cases this
                  rw [hM.left t (fun k ok hk hlk htk => by
                    have : k = i := unlike k i ok oi t hk hi htk hti
                    rw [this] at hlk
                    exact hun hlk), far 0 t j (by omega) (by omega) (fun k ok _ hk hok' htk => by
                    have : k = i := unlike k i ok oi t hok' hi htk hti
                    omega), hA0]
            · rw [hM.left t (fun k ok hk _ htk => hx ⟨k, ok, hk, htk⟩), far 0 t j (by omega) (by omega) (fun k ok _ _ hk htk => hx ⟨k, ok, hk, htk⟩), hA0]
          have hM' : Midway ops a (A m) (listed.setIfInBounds j true) (b.put o.dst v) := by
            refine ⟨by rw [put_size, hM.size], by rw [put_defs, hM.defers], by rw [Array.size_setIfInBounds, hM.len], fun y hy => ?_, fun k ok t hk hlk htk => ?_, fun t hno => ?_⟩
            · intro oy hoy e he hb
              by_cases hyj : j = y
              · subst hyj
                exact getD_set_true (hmet oy hoy e he hb)
              · rw [getD_set_ne false hyj] at hy
                exact getD_set_true (hM.closed y hy oy hoy e he hb)
            · by_cases hkj : j = k
              · subst hkj
                rw [ho] at hk
                cases hk
                rw [htk, put_at (b := A j) (by rw [hM.size, (asz j (by omega)).1]), ← htk, ← hv]
                exact (far (j + 1) t m (by omega) (Nat.le_refl _) (fun i oi hi _ hoi hti => by
                  have : i = j := unlike i j oi o t hoi ho hti htk
                  omega)).symm
              · rw [getD_set_ne false hkj] at hlk
                rw [put_ne (fun e => hkj (unlike j k o ok t ho hk e htk))]
                exact hM.done k ok t hk hlk htk
            · have hjt : o.dst ≠ some t := hno j o ho (by simp [hjl])
              rw [put_ne hjt]
              refine hM.left t (fun k ok hk hlk => hno k ok hk ?_)
              exact getD_set_true hlk
          unfold wpOp
          simp only [ho]
          refine step listed b w _ Q hag hM.len hjun' hmet hw (fun w' hw' => ih _ _ w' ?_ hM' (fun k hk => ?_) hw')
          · have := count_lt (p := fun k => !listed.getD k true) (q := fun k => !(listed.setIfInBounds j true).getD k true) (fun k hk => by
              by_cases hkj : j = k
              · subst hkj; simp [hjun]
              · rw [getD_set_ne true hkj] at hk; exact hk) (j := j) (by simp [hjun]) (by simp [hjl]) (List.mem_range.2 hjm)
            omega
          · by_cases hkj : j = k
            · omega
            · rw [getD_set_ne false hkj] at hk
              exact hin k hk
  refine wp_region_any hm (main ops.size _ a w.drew ?_ ?_ ?_ hS)
  · have := List.length_filter_le (fun k => !(Array.replicate ops.size false).getD k true) (List.range m)
    simp only [List.length_range] at this
    omega
  · refine ⟨rfl, rfl, by simp, fun y hy => ?_, fun k o t ho hk _ => ?_, fun t _ => rfl⟩
    · simp [Array.getElem?_replicate] at hy
      split at hy <;> simp at hy
    · simp [Array.getElem?_replicate] at hk
      split at hk <;> simp at hk
  · intro k hk
    simp [Array.getElem?_replicate] at hk
    split at hk <;> simp at hk
end
end Go.Proofs.Ytlbehhbicmmdoaa
/- As StageM, with one allocation that may come anywhere: its pointer is not fixed. No function of the program stands here. -/
namespace Go.Proofs.Ytlbehhbicmmdoaa
set_option linter.unusedVariables false
set_option linter.unusedSimpArgs false
open Go.RowKit
section
variable {P : Program} {ops : Array Oper} {Q : Exit → Act → World → Prop}
/-- What an operation gives at one frame it gives at every frame that agrees on what it looks at. -/
theorem gives_stepF {S : Array Bool → World → Prop} {n j : Nat} {o : Oper} {a : Act} {v : Value} (h : GivesM P ops S n j o a (a.put o.dst v)) (hs : ∀ cs c, o.op ≠ .select cs c) :
    ∀ (l : Array Bool) (b : Act) (w : World) (K : Act → World → Prop) (Q : Exit → Act → World → Prop), Agree ops o a b → l.size = n → l.getD j false = false → AllMet ops l j → S l w → (∀ w', S (l.setIfInBounds j true) w' → K (b.put o.dst v) w') →
      (if Region.wanted o (yielded ops b.tmps) then o.wp P b w K Q ∨ (o.asks P b w ∧ LetsOut Q) else K (b.put o.dst undef) w) := by
  intro l b w K Q hab hz hn hm hS hK
  have hd : (a.put o.dst v).defers = a.defers := put_defs _ _ _
  obtain ⟨a', hv⟩ : ∃ a', a' = a.put o.dst v := ⟨_, rfl⟩
  rw [← hv] at h hd
  by_cases hw : Region.wanted o (yielded ops a.tmps) = true
  · -- what it comes to in a world of S
    have key : ∀ l w, l.size = n → l.getD j false = false → AllMet ops l j → S l w → o.wp P a w (fun a'' w' => a'' = a' ∧ S (l.setIfInBounds j true) w') (fun _ _ _ => False) := by
      intro l w hz hn hm hS
      have h1 := h l w hz hn hm hS
      unfold wpList at h1
      rw [if_pos hw] at h1
      rcases h1 with h1 | ⟨_, a1, w1, h1, _⟩
      · unfold Oper.wp at h1 ⊢
        generalize (execOp a.eval o).run P w = r at h1 ⊢
        cases r with
        | ok n w' =>
          cases n with
          | value v => exact h1.2
          | skip => exact h1.2
          | defer d => exact h1.2
          | enter f args =>
            simp only [Oper.upon] at h1 ⊢
            refine Calls.mono h1 fun e w'' he => ?_
            cases e with
            | returned v => exact he.2
            | panicked c => exact absurd he.1 (by simp)
            | outgrown => obtain ⟨_, _, h2, _⟩ := he; exact absurd h2 (by simp)
          | row row args =>
            simp only [Oper.upon] at h1 ⊢
            exact Rows.mono h1 fun v w'' he => he.2
          | _ => exact (h1 : False).elim
        | halt x w' =>
          cases x <;> simp only [Oper.upon] at h1 ⊢ <;> first | exact h1 | exact absurd h1.1 (by simp)
      · exact absurd h1 (by simp)
    have nodefer : ∀ d, ({ a with defers := d :: a.defers } : Act).put o.dst undef ≠ a' := by
      intro d e
      have h1 := congrArg Act.defers e
      rw [hd] at h1
      have h2 : (({ a with defers := d :: a.defers } : Act).put o.dst undef).defers = d :: a.defers := by cases o.dst <;> rfl
      rw [h2] at h1
      have := congrArg List.length h1
      simp at this
    rw [agree_wanted hab, if_pos hw]
    refine .inl ?_
    have k := key l w hz hn hm hS
    unfold Oper.wp at k ⊢
    rw [agree_eval hab hs]
    have same : ∀ u, a.put o.dst u = a' → b.put o.dst u = b.put o.dst v := fun u hu => put_same hab.1 (hu.trans hv)
    generalize (execOp a.eval o).run P w = r at k ⊢
    cases r with
    | ok n w' =>
      cases n with
      | value u => show K _ _; rw [same u k.1]; exact hK _ k.2
      | skip => show K _ _; rw [same undef k.1]; exact hK _ k.2
      | defer d => exact absurd k.1 (nodefer d)
      | enter f args =>
        simp only [Oper.upon] at k ⊢
        refine Calls.mono k fun e w'' he => ?_
        cases e with
        | returned u => show K _ _; rw [same u he.1]; exact hK _ he.2
        | panicked c => exact he.elim
        | outgrown => obtain ⟨_, _, h2⟩ := he; exact h2.elim
      | row row args =>
        simp only [Oper.upon] at k ⊢
        refine Rows.mono k fun u w'' he => ?_
        rw [same u he.1]; exact hK _ he.2
      | _ => exact (k : False).elim
    | halt x w' => cases x <;> simp only [Oper.upon] at k
  · rw [agree_wanted hab, if_neg hw]
    have h1 := h l w hz hn hm hS
    unfold wpList at h1
    rw [if_neg hw] at h1
    have e : a.put o.dst undef = a.put o.dst v := h1.2.1.trans hv
    rw [put_same hab.1 e]
    exact hK w h1.2.2
section
variable {S : Value → Array Bool → World → Prop}
end
end
end Go.Proofs.Ytlbehhbicmmdoaa
/- As Free, with any number of allocations that may come anywhere: their pointers are not fixed. No function of the program stands here. -/
namespace Go.Proofs.Ytlbehhbicmmdoaa
set_option linter.unusedVariables false
set_option linter.unusedSimpArgs false
open Go.RowKit
section
variable {P : Program} {ops : Array Oper} {Q : Exit → Act → World → Prop}
/-- The operations one by one, in the order of the text; those that F names give what they will. -/
def WalkedG (P : Program) (ops : Array Oper) (S : (Nat → Value) → Array Bool → World → Prop) (F : Nat → Option Obj) (n : Nat) (Q : (Nat → Value) → Act → Prop) : List Oper → Nat → ((Nat → Value) → Act) → Prop
  | [], _, a => ∀ v, Q v (a v)
  | o :: r, j, a => (F j ≠ none ∧ WalkedG P ops S F n Q r (j + 1) (fun v => (a v).put o.dst (v j))) ∨ (F j = none ∧ ∃ u, (∀ v, GivesM P ops (S v) n j o (a v) ((a v).put o.dst u)) ∧ WalkedG P ops S F n Q r (j + 1) (fun v => (a v).put o.dst u))
section
variable {S : (Nat → Value) → Array Bool → World → Prop}
/-- One value is told anew. -/
def updV (v : Nat → Value) (j : Nat) (u : Value) : Nat → Value := fun k => if k = j then u else v k
theorem updV_same (v : Nat → Value) (j : Nat) (u : Value) : updV v j u j = u := if_pos rfl
theorem updV_ne {v : Nat → Value} {j k : Nat} (u : Value) (h : k ≠ j) : updV v j u k = v k := if_neg h
theorem walkedG_chain {F : Nat → Option Obj} {n : Nat} {Qf : (Nat → Value) → Act → Prop} : ∀ {L : List Oper} (_ : ∀ (j : Nat) (o : Oper), L[j]? = some o → ∀ cs c, o.op ≠ .select cs c) (a : (Nat → Value) → Act) {j0 : Nat}, WalkedG P ops S F n Qf L j0 a →
    ∃ A : (Nat → Value) → Nat → Act, (∀ v, A v 0 = a v) ∧ (∀ k o, L[k]? = some o → F (j0 + k) = none → ∃ u, ∀ v, A v (k + 1) = (A v k).put o.dst u ∧ ∀ (l : Array Bool) (b : Act) (w : World) (K : Act → World → Prop) (Q : Exit → Act → World → Prop), Agree ops o (A v k) b → l.size = n → l.getD (j0 + k) false = false → AllMet ops l (j0 + k) → S v l w →
      (∀ w', S v (l.setIfInBounds (j0 + k) true) w' → K (b.put o.dst u) w') → (if Region.wanted o (yielded ops b.tmps) then o.wp P b w K Q ∨ (o.asks P b w ∧ LetsOut Q) else K (b.put o.dst undef) w)) ∧
      (∀ k o, L[k]? = some o → F (j0 + k) ≠ none → ∀ v, A v (k + 1) = (A v k).put o.dst (v (j0 + k))) ∧ ∀ v, Qf v (A v L.length) := by
  intro L
  induction L with
  | nil => intro _ a j0 h; exact ⟨fun v _ => a v, fun _ => rfl, fun k o hk => by simp at hk, fun k o hk => by simp at hk, h⟩
  | cons o L ih =>
    intro hs a j0 h
    rcases h with ⟨hj, hr⟩ | ⟨hj, u, hg, hr⟩
    · obtain ⟨A, hA0, hA1, hA2, hA3⟩ := ih (fun j o' ho' => hs (j + 1) o' (by simpa using ho')) _ hr
      refine ⟨fun v k => match k with | 0 => a v | k + 1 => A v k, fun _ => rfl, fun k o' hk hF => ?_, fun k o' hk hF v => ?_, hA3⟩
      · cases k with
        | zero => exact absurd (by simpa using hF) hj
        | succ k =>
          have := hA1 k o' (by simpa using hk) (by rw [show j0 + 1 + k = j0 + (k + 1) by omega]; exact hF)
          rw [show j0 + 1 + k = j0 + (k + 1) by omega] at this
          exact this
      · cases k with
        | zero =>
          simp at hk
          subst hk
          show A v 0 = (a v).put o.dst (v (j0 + 0))
          rw [hA0]; rfl
        | succ k =>
          have := hA2 k o' (by simpa using hk) (by rw [show j0 + 1 + k = j0 + (k + 1) by omega]; exact hF) v
          rw [show j0 + 1 + k = j0 + (k + 1) by omega] at this
          exact this
    · obtain ⟨A, hA0, hA1, hA2, hA3⟩ := ih (fun j o' ho' => hs (j + 1) o' (by simpa using ho')) _ hr
      refine ⟨fun v k => match k with | 0 => a v | k + 1 => A v k, fun _ => rfl, fun k o' hk hF => ?_, fun k o' hk hF v => ?_, hA3⟩
      · cases k with
        | zero =>
          simp at hk
          subst hk
          exact ⟨u, fun v => ⟨by show A v 0 = _; rw [hA0], gives_stepF (hg v) (hs 0 o rfl)⟩⟩
        | succ k =>
          have := hA1 k o' (by simpa using hk) (by rw [show j0 + 1 + k = j0 + (k + 1) by omega]; exact hF)
          rw [show j0 + 1 + k = j0 + (k + 1) by omega] at this
          exact this
      · cases k with
        | zero => exact absurd hj (by simpa using hF)
        | succ k =>
          have := hA2 k o' (by simpa using hk) (by rw [show j0 + 1 + k = j0 + (k + 1) by omega]; exact hF) v
          rw [show j0 + 1 + k = j0 + (k + 1) by omega] at this
          exact this
/-- **As wp_region_met; the operations that F names are allocations that may come anywhere.** -/
theorem wp_region_frees (F : Nat → Option Obj) (m : Nat) {id : Nat} {a : Act} {w : World}
    (hrun : ∀ (j : Nat) (o : Oper) (C : Obj), ops[j]? = some o → F j = some C → o.guard = none ∧ ∀ (b : Act) (x : World), (execOp b.eval o).run P x = .ok (.value (.pointer (some ⟨x.heap.size, 0, none⟩))) (x.alloc C))
    (hfree : ∀ (j : Nat) (C : Obj) (v : Nat → Value) (l : Array Bool) (x : World), F j = some C → l.size = ops.size → l.getD j false = false → S v l x → S (updV v j (.pointer (some ⟨x.heap.size, 0, none⟩))) (l.setIfInBounds j true) (x.alloc C))
    (hm : P.follows .mixedOrders = true) (hok : seqOk ops = true) (ht : tailOk ops m = true) (hms : m ≤ ops.size) (v0 : Nat → Value) (hS : S v0 (Array.replicate ops.size false) w.drew)
    (h : WalkedG P ops S F ops.size (fun v a' => ∀ l w', l.size = ops.size → (∀ k, k < m → l.getD k false = true) → S v l w' → wpList P ops Q (ops.toList.drop m) a' w') (ops.toList.take m) 0 (fun _ => a)) : (Code.region id ops true).wp P Q a w := by
  obtain ⟨A, hA0, hA1, hA2, hQ⟩ := walkedG_chain (fun j o ho => (seqOk_spec (j := j) hok (by rw [List.getElem?_take] at ho; split at ho; (· simpa using ho); (· cases ho))).1) _ h
  have hA' : ∀ k o, k < m → ops[k]? = some o → F k = none → ∃ u, ∀ v, A v (k + 1) = (A v k).put o.dst u ∧ ∀ (l : Array Bool) (b : Act) (w : World) (K : Act → World → Prop) (Q : Exit → Act → World → Prop), Agree ops o (A v k) b → l.size = ops.size → l.getD k false = false → AllMet ops l k → S v l w →
      (∀ w', S v (l.setIfInBounds k true) w' → K (b.put o.dst u) w') → (if Region.wanted o (yielded ops b.tmps) then o.wp P b w K Q ∨ (o.asks P b w ∧ LetsOut Q) else K (b.put o.dst undef) w) := fun k o hk ho hkF => by
    simpa using hA1 k o (by rw [List.getElem?_take, if_pos hk]; simpa using ho) (by rw [Nat.zero_add]; exact hkF)
  have hAF : ∀ k o v, k < m → ops[k]? = some o → F k ≠ none → A v (k + 1) = (A v k).put o.dst (v k) := fun k o v hk ho hkF => by
    have := hA2 k o (by rw [List.getElem?_take, if_pos hk]; simpa using ho) (by rw [Nat.zero_add]; exact hkF) v
    rw [Nat.zero_add] at this
    exact this
  have hAll : ∀ v k o, k < m → ops[k]? = some o → ∃ u, A v (k + 1) = (A v k).put o.dst u := fun v k o hk ho => by
    cases hkF : F k with
    | some C => exact ⟨v k, hAF k o v hk ho (by rw [hkF]; simp)⟩
    | none =>
      obtain ⟨u, hu⟩ := hA' k o hk ho hkF
      exact ⟨u, (hu v).1⟩
  have hlen : (ops.toList.take m).length = m := by simp [Nat.min_eq_left hms]
  rw [hlen] at hQ
  have asz : ∀ v k, k ≤ m → (A v k).tmps.size = a.tmps.size ∧ (A v k).defers = a.defers := by
    intro v k
    induction k with
    | zero => intro _; rw [hA0 v]; exact ⟨rfl, rfl⟩
    | succ k ih =>
      intro hk
      obtain ⟨u, hv⟩ := hAll v k _ (by omega) (Array.getElem?_eq_getElem (show k < ops.size by omega))
      obtain ⟨i1, i2⟩ := ih (by omega)
      rw [hv, put_size, put_defs]; exact ⟨i1, i2⟩
  have far : ∀ v k t n, k ≤ n → n ≤ m → (∀ i o, k ≤ i → i < n → ops[i]? = some o → o.dst ≠ some t) → (A v n).tmps[t]? = (A v k).tmps[t]? := by
    intro v k t n
    induction n with
    | zero => intro h1 _ _; rw [show k = 0 by omega]
    | succ n ih =>
      intro h1 h2 hno
      by_cases hkm : k = n + 1
      · rw [hkm]
      · obtain ⟨u, hv⟩ := hAll v n _ (by omega) (Array.getElem?_eq_getElem (show n < ops.size by omega))
        rw [hv, put_ne (hno n _ (by omega) (by omega) (Array.getElem?_eq_getElem (show n < ops.size by omega)))]
        exact ih (by omega) (by omega) (fun i o hi hi' ho => hno i o hi (by omega) ho)
  have unlike : ∀ (i j : Nat) (oi oj : Oper) (t : Tmp), ops[i]? = some oi → ops[j]? = some oj → oi.dst = some t → oj.dst = some t → i = j := by
    intro i j oi oj t hi hj ti tj
    by_cases e : i = j
    · exact e
    · exact absurd tj (((seqOk_spec hok hj).2.2 i oi hi e t ti).1)
  have same : ∀ (v v' : Nat → Value) (k : Nat) (o : Oper) (t : Tmp), ops[k]? = some o → k < m → v k = v' k → o.dst = some t → (A v m).tmps[t]? = (A v' m).tmps[t]? := by
    intro v v' k o t ho hk hkF ht
    obtain ⟨u, hu1, hu2⟩ : ∃ u, A v (k + 1) = (A v k).put o.dst u ∧ A v' (k + 1) = (A v' k).put o.dst u := by
      cases hF : F k with
      | some C => exact ⟨v k, hAF k o v hk ho (by rw [hF]; simp), by rw [hkF]; exact hAF k o v' hk ho (by rw [hF]; simp)⟩
      | none =>
        obtain ⟨u, hu⟩ := hA' k o hk ho hF
        exact ⟨u, (hu v).1, (hu v').1⟩
    have hno : ∀ i oi, k + 1 ≤ i → i < m → ops[i]? = some oi → oi.dst ≠ some t := fun i oi hi _ hoi hti => by
      have : i = k := unlike i k oi o t hoi ho hti ht
      omega
    rw [far v (k + 1) t m (by omega) (Nat.le_refl _) hno, far v' (k + 1) t m (by omega) (Nat.le_refl _) hno, hu1, hu2, ht]
    exact put_at (by rw [(asz v' k (by omega)).1, (asz v k (by omega)).1])
  have main : ∀ (fuel : Nat) (listed : Array Bool) (b : Act) (w : World), ((List.range m).filter (fun k => !listed.getD k true)).length + (ops.size - m) ≤ fuel →
      (∃ v, Midway ops a (A v m) listed b ∧ S v listed w) → (∀ k, listed.getD k false = true → k < m) → wpAny P .any ops Q fuel listed b w := by
    intro fuel
    induction fuel with
    | zero =>
      intro listed b w hf hMw hin
      obtain ⟨vv, hM, hw⟩ := hMw
      have hall : ∀ k, k < m → listed.getD k false = true := by
        intro k hk
        have hnil : (List.range m).filter (fun k => !listed.getD k true) = [] := List.length_eq_zero_iff.1 (by omega)
        have := (List.filter_eq_nil_iff.1 hnil) k (List.mem_range.2 hk)
        have hkl : k < listed.size := by rw [hM.len]; omega
        simpa [hkl] using this
      have hfin : b = A vv m := by
        refine act_ext (Array.ext_getElem? fun t => ?_) (by rw [hM.defers, (asz vv _ (Nat.le_refl _)).2])
        by_cases hx : ∃ (k : Nat) (o : Oper), k < m ∧ ops[k]? = some o ∧ o.dst = some t
        · obtain ⟨k, o, hk, ho, ht⟩ := hx
          exact hM.done k o t ho (hall k hk) ht
        · rw [hM.left t (fun k o ho hl ht => hx ⟨k, o, hin k hl, ho, ht⟩), far vv 0 t m (by omega) (Nat.le_refl _) (fun i o _ hi ho ht => hx ⟨i, o, hi, ho, ht⟩), hA0 vv]
      rw [hfin]
      exact forced hok ht (ops.size - m) m 0 listed _ w rfl (by omega) (Nat.le_refl _) hms ⟨hM.len, fun i _ => ⟨fun e => hin i e, fun e => hall i e⟩⟩ hM.closed (hQ vv listed w hM.len hall hw)
    | succ fuel ih =>
      intro listed b w hf hMw hin
      obtain ⟨vv, hM, hw⟩ := hMw
      by_cases hall : ∀ k, k < m → listed.getD k false = true
      · have hfin : b = A vv m := by
          refine act_ext (Array.ext_getElem? fun t => ?_) (by rw [hM.defers, (asz vv _ (Nat.le_refl _)).2])
          by_cases hx : ∃ (k : Nat) (o : Oper), k < m ∧ ops[k]? = some o ∧ o.dst = some t
          · obtain ⟨k, o, hk, ho, ht⟩ := hx
            exact hM.done k o t ho (hall k hk) ht
          · rw [hM.left t (fun k o ho hl ht => hx ⟨k, o, hin k hl, ho, ht⟩), far vv 0 t m (by omega) (Nat.le_refl _) (fun i o _ hi ho ht => hx ⟨i, o, hi, ho, ht⟩), hA0 vv]
        rw [hfin]
        exact forced hok ht (ops.size - m) m (fuel + 1) listed _ w rfl (by omega) (Nat.le_refl _) hms ⟨hM.len, fun i _ => ⟨fun e => hin i e, fun e => hall i e⟩⟩ hM.closed (hQ vv listed w hM.len hall hw)
      · refine ⟨fun hnil => absurd ?_ hall, fun j hj => ?_⟩
        · -- nothing may come up: then all has
          have hall' : ∀ n k, k < n → k < m → listed.getD k false = true := by
            intro n
            induction n with
            | zero => intro k hk; omega
            | succ n ihn =>
              intro k hk hs
              by_cases hl : listed.getD k false = true
              · exact hl
              · exfalso
                have hks : k < ops.size := by omega
                have hkl : k < listed.size := by rw [hM.len]; exact hks
                have hmem : k ∈ Region.ready .any ops listed := mem_ready.2 ⟨by simpa [hkl] using hl, _, Array.getElem?_eq_getElem hks, fun e he hb => by
                  have hlt := (seqOk_spec hok (Array.getElem?_eq_getElem hks)).2.1 e he hb
                  exact ihn e.on (by omega) (by omega)⟩
                rw [hnil] at hmem
                cases hmem
          exact fun k hk => hall' _ k (Nat.lt_succ_self k) hk
        · obtain ⟨hjun, o, ho, hedges⟩ := mem_ready.1 hj
          have hjs : j < ops.size := (Array.getElem?_eq_some_iff.1 ho).1
          have hjl : j < listed.size := by rw [hM.len]; exact hjs
          have hjun' : listed.getD j false = false := by simpa [hjl] using hjun
          have hmet : AllMet ops listed j := fun o' ho' e he hb => by
            rw [ho] at ho'
            cases ho'
            exact hedges e he hb
          have hjm : j < m := by
            refine Nat.lt_of_not_le fun hle => hall fun k hk => ?_
            exact met_bit hM.closed k (j + 1) j (by omega) hjs hmet (tailOk_spec ht hjs hle (by omega))
          cases hjF : F j with
          | some C =>
            obtain ⟨hgd, hrunj⟩ := hrun j o C ho hjF
            have hM' : Midway ops a (A (updV vv j (.pointer (some ⟨w.heap.size, 0, none⟩))) m) (listed.setIfInBounds j true) (b.put o.dst (.pointer (some ⟨w.heap.size, 0, none⟩))) := by
              refine ⟨by rw [put_size, hM.size], by rw [put_defs, hM.defers], by rw [Array.size_setIfInBounds, hM.len], fun y hy => ?_, fun k ok t hk hlk htk => ?_, fun t hno => ?_⟩
              · intro oy hoy e he hb
                by_cases hyj : j = y
                · subst hyj
                  exact getD_set_true (hmet oy hoy e he hb)
                · rw [getD_set_ne false hyj] at hy
                  exact getD_set_true (hM.closed y hy oy hoy e he hb)
              · by_cases hkj : j = k
                · subst hkj
                  rw [ho] at hk
                  cases hk
                  rw [far (updV vv j (.pointer (some ⟨w.heap.size, 0, none⟩))) (j + 1) t m (by omega) (Nat.le_refl _) (fun i oi hi _ hoi hti => by
                    have : i = j := unlike i j oi o t hoi ho hti htk
                    omega), hAF j o _ hjm ho (by rw [hjF]; simp), htk, updV_same]
                  exact put_at (by rw [(asz (updV vv j (.pointer (some ⟨w.heap.size, 0, none⟩))) j (by omega)).1, hM.size])
                · rw [getD_set_ne false hkj] at hlk
                  rw [put_ne (fun e => hkj (unlike j k o ok t ho hk e htk)), hM.done k ok t hk hlk htk]
                  exact same _ _ k ok t hk (hin k hlk) (updV_ne _ (fun e => hkj e.symm)).symm htk
              · have hjt : o.dst ≠ some t := hno j o ho (by simp [hjl])
                rw [put_ne hjt]
                refine hM.left t (fun k ok hk hlk => hno k ok hk ?_)
                exact getD_set_true hlk
            unfold wpOp
            simp only [ho]
            have hwant : Region.wanted o (yielded ops b.tmps) = true := by unfold Region.wanted; rw [hgd]
            rw [if_pos hwant]
            refine .inl ?_
            unfold Oper.wp
            rw [hrunj]
            show wpAny _ _ _ _ _ _ _ _
            refine ih _ _ _ ?_ ⟨_, hM', hfree j C vv listed w hjF hM.len hjun' hw⟩ (fun k hk => ?_)
            · have := count_lt (p := fun k => !listed.getD k true) (q := fun k => !(listed.setIfInBounds j true).getD k true) (fun k hk => by
                by_cases hkj : j = k
                · subst hkj; simp [hjun]
                · rw [getD_set_ne true hkj] at hk; exact hk) (j := j) (by simp [hjun]) (by simp [hjl]) (List.mem_range.2 hjm)
              omega
            · by_cases hkj : j = k
              · omega
              · rw [getD_set_ne false hkj] at hk
                exact hin k hk
          | none =>
            obtain ⟨v, hAv⟩ := hA' j o hjm ho hjF
            obtain ⟨hv, step⟩ := hAv vv
            have hag : Agree ops o (A vv j) b := by
              refine ⟨by rw [hM.size, (asz vv j (by omega)).1], fun t ht => ?_⟩
              by_cases hx : ∃ (i : Nat) (oi : Oper), ops[i]? = some oi ∧ oi.dst = some t
              · obtain ⟨i, oi, hi, hti⟩ := hx
                by_cases hij : i = j
                · rw [hM.left t (fun k ok hk hlk htk => by
                    have : k = i := unlike k i ok oi t hk hi htk hti
                    rw [this, hij, hjun'] at hlk
                    cases hlk), far vv 0 t j (by omega) (by omega) (fun k ok _ hk hok' htk => by
                    have : k = i := unlike k i ok oi t hok' hi htk hti
                    omega), hA0 vv]
                · rcases ((seqOk_spec hok ho).2.2 i oi hi hij t hti).2 ht with ⟨hlt, hbit⟩ | ⟨hlt, hbit⟩
                  · have hli := met_bit hM.closed i (j + 1) j (by omega) hjs hmet hbit
                    rw [hM.done i oi t hi hli hti]
                    exact far vv j t m (by omega) (Nat.le_refl _) (fun k ok hk _ hok' htk => by
                      have : k = i := unlike k i ok oi t hok' hi htk hti
                      omega)
                  · have hun : listed.getD i false ≠ true := fun hli => by
                      have his : i < ops.size := (Array.getElem?_eq_some_iff.1 hi).1
                      have := met_bit hM.closed j (i + 1) i (by omega) his (hM.closed i hli) hbit
                      rw [hjun'] at this
                      cases this
                    rw [hM.left t (fun k ok hk hlk htk => by
                      have : k = i := unlike k i ok oi t hk hi htk hti
                      rw [this] at hlk
                      exact hun hlk), far vv 0 t j (by omega) (by omega) (fun k ok _ hk hok' htk => by
                      have : k = i := unlike k i ok oi t hok' hi htk hti
                      omega), hA0 vv]
              · rw [hM.left t (fun k ok hk _ htk => hx ⟨k, ok, hk, htk⟩), far vv 0 t j (by omega) (by omega) (fun k ok _ _ hk htk => hx ⟨k, ok, hk, htk⟩), hA0 vv]
            have hM' : Midway ops a (A vv m) (listed.setIfInBounds j true) (b.put o.dst v) := by
              refine ⟨by rw [put_size, hM.size], by rw [put_defs, hM.defers], by rw [Array.size_setIfInBounds, hM.len], fun y hy => ?_, fun k ok t hk hlk htk => ?_, fun t hno => ?_⟩
              · intro oy hoy e he hb
                by_cases hyj : j = y
                · subst hyj
                  exact getD_set_true (hmet oy hoy e he hb)
                · rw [getD_set_ne false hyj] at hy
                  exact getD_set_true (hM.closed y hy oy hoy e he hb)
              · by_cases hkj : j = k
                · subst hkj
                  rw [ho] at hk
                  cases hk
                  rw [htk, put_at (b := A vv j) (by rw [hM.size, (asz vv j (by omega)).1]), ← htk, ← hv]
                  exact (far vv (j + 1) t m (by omega) (Nat.le_refl _) (fun i oi hi _ hoi hti => by
                    have : i = j := unlike i j oi o t hoi ho hti htk
                    omega)).symm
                · rw [getD_set_ne false hkj] at hlk
                  rw [put_ne (fun e => hkj (unlike j k o ok t ho hk e htk))]
                  exact hM.done k ok t hk hlk htk
              · have hjt : o.dst ≠ some t := hno j o ho (by simp [hjl])
                rw [put_ne hjt]
                refine hM.left t (fun k ok hk hlk => hno k ok hk ?_)
                exact getD_set_true hlk
            unfold wpOp
            simp only [ho]
            refine step listed b w _ Q hag hM.len hjun' hmet hw (fun w' hw' => ih _ _ w' ?_ ⟨vv, hM', hw'⟩ (fun k hk => ?_))
            · have := count_lt (p := fun k => !listed.getD k true) (q := fun k => !(listed.setIfInBounds j true).getD k true) (fun k hk => by
                by_cases hkj : j = k
                · subst hkj; simp [hjun]
                · rw [getD_set_ne true hkj] at hk; exact hk) (j := j) (by simp [hjun]) (by simp [hjl]) (List.mem_range.2 hjm)
              omega
            · by_cases hkj : j = k
              · omega
              · rw [getD_set_ne false hkj] at hk
                exact hin k hk
  refine wp_region_any hm (main ops.size _ a w.drew ?_ ⟨v0, ?_, hS⟩ ?_)
  · have := List.length_filter_le (fun k => !(Array.replicate ops.size false).getD k true) (List.range m)
    simp only [List.length_range] at this
    omega
  · refine ⟨rfl, rfl, by simp, fun y hy => ?_, fun k o t ho hk _ => ?_, fun t _ => rfl⟩
    · simp [Array.getElem?_replicate] at hy
      split at hy <;> simp at hy
    · simp [Array.getElem?_replicate] at hk
      split at hk <;> simp at hk
  · intro k hk
    simp [Array.getElem?_replicate] at hk
    split at hk <;> simp at hk
theorem walkedG_cons {F : Nat → Option Obj} {n j : Nat} {Qf : (Nat → Value) → Act → Prop} {o : Oper} {r : List Oper} {a : (Nat → Value) → Act} (u : Value) (hj : F j = none) (hg : ∀ v, GivesM P ops (S v) n j o (a v) ((a v).put o.dst u)) (hr : WalkedG P ops S F n Qf r (j + 1) (fun v => (a v).put o.dst u)) : WalkedG P ops S F n Qf (o :: r) j a := .inr ⟨hj, u, hg, hr⟩
theorem walkedG_free {F : Nat → Option Obj} {n j : Nat} {Qf : (Nat → Value) → Act → Prop} {o : Oper} {r : List Oper} {a : (Nat → Value) → Act} (hj : F j ≠ none) (hr : WalkedG P ops S F n Qf r (j + 1) (fun v => (a v).put o.dst (v j))) : WalkedG P ops S F n Qf (o :: r) j a := .inl ⟨hj, hr⟩
theorem walkedG_nil {F : Nat → Option Obj} {n j : Nat} {Qf : (Nat → Value) → Act → Prop} {a : (Nat → Value) → Act} (h : ∀ v, Qf v (a v)) : WalkedG P ops S F n Qf [] j a := h
end
end
end Go.Proofs.Ytlbehhbicmmdoaa
/- A drawn statement with two stores into two blocks, in either order (a 'return' of two structs that are result variables). No function of the program stands here. -/
namespace Go.Proofs.Ytlbehhbicmmdoaa
set_option linter.unusedVariables false
set_option linter.unusedSimpArgs false
open Go.RowKit
/-- World W; behind operation J1 the block b1 is o1, behind operation J2 the block b2 is o2. -/
def TwoS (J1 J2 b1 : Nat) (o1 : Obj) (b2 : Nat) (o2 : Obj) (W : World) (l : Array Bool) (x : World) : Prop :=
  x = bif l.getD J1 false then (bif l.getD J2 false then putB (putB W b1 o1) b2 o2 else putB W b1 o1) else (bif l.getD J2 false then putB W b2 o2 else W)
section
variable {J1 J2 b1 b2 : Nat} {o1 o2 : Obj} {W x : World} {l : Array Bool}
theorem putB_swap (h : b1 ≠ b2) : putB (putB W b2 o2) b1 o1 = putB (putB W b1 o1) b2 o2 := by
  unfold putB
  simp only [World.mk.injEq, true_and, and_true]
  apply Array.ext_getElem?
  intro i
  simp only [Array.getElem?_setIfInBounds, Array.size_setIfInBounds]
  by_cases e1 : b1 = i
  · have e2 : ¬ b2 = i := fun e2 => h (e1.trans e2.symm)
    simp only [if_pos e1, if_neg e2]
  · simp only [if_neg e1]
theorem two_start (n : Nat) : TwoS J1 J2 b1 o1 b2 o2 W (Array.replicate n false) W := by
  have e : ∀ k, (Array.replicate n false).getD k false = false := fun k => by simp [Array.getElem?_replicate]; split <;> rfl
  unfold TwoS; rw [e, e]; rfl
theorem two_other (j : Nat) (h1 : j ≠ J1) (h2 : j ≠ J2) (h : TwoS J1 J2 b1 o1 b2 o2 W l x) : TwoS J1 J2 b1 o1 b2 o2 W (l.setIfInBounds j true) x := by
  unfold TwoS at h ⊢
  rw [getD_set_ne false h1, getD_set_ne false h2]; exact h
theorem two_block {b : Nat} {o : Option Obj} (h : TwoS J1 J2 b1 o1 b2 o2 W l x) (h1 : b ≠ b1) (h2 : b ≠ b2) (hb : W.heap[b]? = o) : x.heap[b]? = o := by
  unfold TwoS at h
  rw [h]
  cases l.getD J1 false <;> cases l.getD J2 false <;> simp only [cond_true, cond_false]
  · exact hb
  · rw [putB_other _ (fun e => h2 e.symm)]; exact hb
  · rw [putB_other _ (fun e => h1 e.symm)]; exact hb
  · rw [putB_other _ (fun e => h2 e.symm), putB_other _ (fun e => h1 e.symm)]; exact hb
theorem two_cell {b : Nat} {C : Array Value} {t : TypeId} (h : TwoS J1 J2 b1 o1 b2 o2 W l x) (h1 : b ≠ b1) (h2 : b ≠ b2) (hb : W.heap[b]? = some (.cells C t)) (i : Nat) : x.cell? ⟨b, i, none⟩ = C[i]? := cell_of (two_block h h1 h2 hb) i
theorem two_first (hn : l.getD J1 false = false) (h : TwoS J1 J2 b1 o1 b2 o2 W l x) (h12 : b1 ≠ b2) {o : Option Obj} (hb : W.heap[b1]? = o) : x.heap[b1]? = o := by
  unfold TwoS at h
  rw [h, hn]
  cases l.getD J2 false <;> simp only [cond_true, cond_false]
  · exact hb
  · rw [putB_other _ (fun e => h12 e.symm)]; exact hb
theorem two_second (hn : l.getD J2 false = false) (h : TwoS J1 J2 b1 o1 b2 o2 W l x) (h12 : b1 ≠ b2) {o : Option Obj} (hb : W.heap[b2]? = o) : x.heap[b2]? = o := by
  unfold TwoS at h
  rw [h, hn]
  cases l.getD J1 false <;> simp only [cond_true, cond_false]
  · exact hb
  · rw [putB_other _ h12]; exact hb
theorem two_done1 {n : Nat} (hz : l.size = n) (hJ : J1 < n) (hJJ : J1 ≠ J2) (hn : l.getD J1 false = false) (h12 : b1 ≠ b2) (h : TwoS J1 J2 b1 o1 b2 o2 W l x) : TwoS J1 J2 b1 o1 b2 o2 W (l.setIfInBounds J1 true) (putB x b1 o1) := by
  have e : (l.setIfInBounds J1 true).getD J1 false = true := by simp [hz, hJ]
  unfold TwoS at h ⊢
  rw [e, getD_set_ne false hJJ, h, hn]
  cases l.getD J2 false <;> simp only [cond_true, cond_false]
  exact putB_swap h12
theorem two_done2 {n : Nat} (hz : l.size = n) (hJ : J2 < n) (hJJ : J1 ≠ J2) (hn : l.getD J2 false = false) (h : TwoS J1 J2 b1 o1 b2 o2 W l x) : TwoS J1 J2 b1 o1 b2 o2 W (l.setIfInBounds J2 true) (putB x b2 o2) := by
  have e : (l.setIfInBounds J2 true).getD J2 false = true := by simp [hz, hJ]
  unfold TwoS at h ⊢
  rw [e, getD_set_ne false (fun e => hJJ e.symm), h, hn]
  cases l.getD J1 false <;> rfl
theorem two_all (h1 : l.getD J1 false = true) (h2 : l.getD J2 false = true) (h : TwoS J1 J2 b1 o1 b2 o2 W l x) : x = putB (putB W b1 o1) b2 o2 := by
  unfold TwoS at h
  rw [h1, h2] at h; exact h
end
section
variable {P : Program} {w : World}
/-- A struct is stored over a whole block. -/
theorem wpList_store_whole {ops : Array Oper} {rest : List Oper} {o : Oper} {a : Act} {Q : Exit → Act → World → Prop} (hgd : o.guard = none) (ty : TypeId) (x y : Operand) (ho : o.op = .store ty x y)
    (g : Nat) (cells : List Value) (hx : a.eval x = .pointer (some ⟨g, 0, none⟩)) (hy : a.eval y = .agg cells.toArray)
    (t : TypeId) (old : Array Value) (hg : w.heap[g]? = some (.cells old t)) (hi : (P.info? ty).map (·.size) = some cells.length)
    (hold : old.size = cells.length) (h1 : ∀ v ∈ cells, v.oneCell' = true)
    (h : wpList P ops Q rest (a.put o.dst undef) (putB w g (.cells cells.toArray t))) : wpList P ops Q (o :: rest) a w := by
  refine wpList_store_at hgd ty x y ho g 0 cells hx hy t old hg hi (by omega) h1 ?_
  have e : old.toList.take 0 ++ cells ++ old.toList.drop (0 + cells.length) = cells := by
    rw [List.take_zero, List.nil_append, List.drop_eq_nil_of_le (by simp; omega), List.append_nil]
  rw [e]; exact h
end
/-- Two operations that turn the world, in either order. -/
def FourS (J1 J2 : Nat) (W W1 W2 W12 : World) (l : Array Bool) (x : World) : Prop :=
  x = bif l.getD J1 false then (bif l.getD J2 false then W12 else W1) else (bif l.getD J2 false then W2 else W)
section
variable {J1 J2 : Nat} {W W1 W2 W12 x : World} {l : Array Bool}
theorem four_start (n : Nat) : FourS J1 J2 W W1 W2 W12 (Array.replicate n false) W := by
  have e : ∀ k, (Array.replicate n false).getD k false = false := fun k => by simp [Array.getElem?_replicate]; split <;> rfl
  unfold FourS; rw [e, e]; rfl
theorem four_other (j : Nat) (h1 : j ≠ J1) (h2 : j ≠ J2) (h : FourS J1 J2 W W1 W2 W12 l x) : FourS J1 J2 W W1 W2 W12 (l.setIfInBounds j true) x := by
  unfold FourS at h ⊢
  rw [getD_set_ne false h1, getD_set_ne false h2]; exact h
theorem four_fact {Φ : World → Prop} (h : FourS J1 J2 W W1 W2 W12 l x) (a : Φ W) (b : Φ W1) (c : Φ W2) (d : Φ W12) : Φ x := by
  unfold FourS at h
  rw [h]
  cases l.getD J1 false <;> cases l.getD J2 false <;> assumption
theorem four_first {n : Nat} (hz : l.size = n) (hJ : J1 < n) (hJJ : J1 ≠ J2) (hn : l.getD J1 false = false) (h : FourS J1 J2 W W1 W2 W12 l x) :
    (x = W ∧ FourS J1 J2 W W1 W2 W12 (l.setIfInBounds J1 true) W1) ∨ (x = W2 ∧ FourS J1 J2 W W1 W2 W12 (l.setIfInBounds J1 true) W12) := by
  have e : (l.setIfInBounds J1 true).getD J1 false = true := by simp [hz, hJ]
  unfold FourS at h ⊢
  rw [e, getD_set_ne false hJJ, h, hn]
  cases l.getD J2 false
  · exact .inl ⟨rfl, rfl⟩
  · exact .inr ⟨rfl, rfl⟩
theorem four_second {n : Nat} (hz : l.size = n) (hJ : J2 < n) (hJJ : J1 ≠ J2) (hn : l.getD J2 false = false) (h : FourS J1 J2 W W1 W2 W12 l x) :
    (x = W ∧ FourS J1 J2 W W1 W2 W12 (l.setIfInBounds J2 true) W2) ∨ (x = W1 ∧ FourS J1 J2 W W1 W2 W12 (l.setIfInBounds J2 true) W12) := by
  have e : (l.setIfInBounds J2 true).getD J2 false = true := by simp [hz, hJ]
  unfold FourS at h ⊢
  rw [e, getD_set_ne false (fun e => hJJ e.symm), h, hn]
  cases l.getD J1 false
  · exact .inl ⟨rfl, rfl⟩
  · exact .inr ⟨rfl, rfl⟩
theorem four_all (h1 : l.getD J1 false = true) (h2 : l.getD J2 false = true) (h : FourS J1 J2 W W1 W2 W12 l x) : x = W12 := by
  unfold FourS at h
  rw [h1, h2] at h; exact h
end
end Go.Proofs.Ytlbehhbicmmdoaa
/- A drawn statement 'x, y := call' with allocations for x and y that may come before or behind the call: what holds meanwhile. No function of the program stands here. -/
namespace Go.Proofs.Ytlbehhbicmmdoaa
set_option linter.unusedVariables false
set_option linter.unusedSimpArgs false
open Go.RowKit
/-- An allocation's number, its store's, the block's first cells, those behind the store, their type. -/
structure FrE where
  A : Nat
  B : Nat
  Z : Array Value
  Q : Array Value
  t : TypeId
/-- x0: the world ahead; J: the call's number; M0, M1: what holds ahead of the call and behind it; G: what the call turns. -/
structure FreeM (J : Nat) (x0 : World) (M0 M1 : World → Prop) (G : Nat → Prop) (L : List FrE) (v : Nat → Value) (l : Array Bool) (x : World) : Prop where
  mem : bif l.getD J false then M1 x else M0 x
  only : Only G x0 x
  blk : ∀ e ∈ L, l.getD e.A false = true → ∃ r, v e.A = .pointer (some ⟨r, 0, none⟩) ∧ x0.heap.size ≤ r ∧ x.heap[r]? = some (.cells (bif l.getD e.B false then e.Q else e.Z) e.t)
  ord : ∀ e ∈ L, l.getD e.B false = true → l.getD e.A false = true
  ne : ∀ e ∈ L, ∀ e' ∈ L, e.A ≠ e'.A → l.getD e.A false = true → l.getD e'.A false = true → v e.A ≠ v e'.A
/-- The numbers are unlike; what the call turns is old; M0, M1 ask nothing of new blocks. -/
structure FreeC (N J : Nat) (x0 : World) (M0 M1 : World → Prop) (G : Nat → Prop) (L : List FrE) : Prop where
  old : ∀ b, G b → b < x0.heap.size
  k0 : ∀ x y, M0 x → Only (fun b => x0.heap.size ≤ b) x y → M0 y
  k1 : ∀ x y, M1 x → Only (fun b => x0.heap.size ≤ b) x y → M1 y
  JA : ∀ e ∈ L, J ≠ e.A
  JB : ∀ e ∈ L, J ≠ e.B
  AB : ∀ e ∈ L, ∀ e' ∈ L, e.A ≠ e'.B
  BB : ∀ e ∈ L, ∀ e' ∈ L, e.A ≠ e'.A → e.B ≠ e'.B
  AN : ∀ e ∈ L, e.A < N ∧ e.B < N
  one : ∀ e ∈ L, ∀ e' ∈ L, e.A = e'.A → e = e'
  JN : J < N
section
variable {N J : Nat} {x0 x y : World} {M0 M1 : World → Prop} {G : Nat → Prop} {L : List FrE} {v : Nat → Value} {l : Array Bool}
theorem freeM_start {n : Nat} (h : M0 x0) : FreeM J x0 M0 M1 G L v (Array.replicate n false) x0 := by
  have e : ∀ k, (Array.replicate n false).getD k false = false := fun k => by simp [Array.getElem?_replicate]; split <;> rfl
  exact { mem := by rw [e]; exact h, only := Only.refl _ _, blk := fun f _ h => (by rw [e] at h; cases h), ord := fun f _ h => (by rw [e] at h; cases h), ne := fun f _ _ _ _ h => (by rw [e] at h; cases h) }
theorem freeM_other (j : Nat) (hJ : j ≠ J) (hL : ∀ e ∈ L, j ≠ e.A ∧ j ≠ e.B) (h : FreeM J x0 M0 M1 G L v l x) : FreeM J x0 M0 M1 G L v (l.setIfInBounds j true) x := by
  refine { mem := by rw [getD_set_ne false hJ]; exact h.mem, only := h.only, blk := fun e he ha => ?_, ord := fun e he hb => ?_, ne := fun e he e' he' hn ha ha' => ?_ }
  · rw [getD_set_ne false (hL e he).1] at ha
    rw [getD_set_ne false (hL e he).2]
    exact h.blk e he ha
  · rw [getD_set_ne false (hL e he).2] at hb
    rw [getD_set_ne false (hL e he).1]
    exact h.ord e he hb
  · rw [getD_set_ne false (hL e he).1] at ha
    rw [getD_set_ne false (hL e' he').1] at ha'
    exact h.ne e he e' he' hn ha ha'
theorem freeM_call (c : FreeC N J x0 M0 M1 G L) (hz : l.size = N) (h : FreeM J x0 M0 M1 G L v l x) (hM : M1 y) (ho : Only G x y) : FreeM J x0 M0 M1 G L v (l.setIfInBounds J true) y := by
  have e1 : (l.setIfInBounds J true).getD J false = true := by have := c.JN; simp [hz, this]
  refine { mem := by rw [e1]; exact hM, only := h.only.trans ho, blk := fun e he ha => ?_, ord := fun e he hb => ?_, ne := fun e he e' he' hn ha ha' => ?_ }
  · rw [getD_set_ne false (c.JA e he)] at ha
    rw [getD_set_ne false (c.JB e he)]
    obtain ⟨r, a, b, d⟩ := h.blk e he ha
    exact ⟨r, a, b, keep_only ho (fun g => by have := c.old r g; omega) d⟩
  · rw [getD_set_ne false (c.JB e he)] at hb
    rw [getD_set_ne false (c.JA e he)]
    exact h.ord e he hb
  · rw [getD_set_ne false (c.JA e he)] at ha
    rw [getD_set_ne false (c.JA e' he')] at ha'
    exact h.ne e he e' he' hn ha ha'
theorem freeM_before (hn : l.getD J false = false) (h : FreeM J x0 M0 M1 G L v l x) : M0 x := by
  have := h.mem
  rw [hn] at this; exact this
theorem freeM_behind (hn : l.getD J false = true) (h : FreeM J x0 M0 M1 G L v l x) : M1 x := by
  have := h.mem
  rw [hn] at this; exact this
theorem freeM_block (h : FreeM J x0 M0 M1 G L v l x) {b : Nat} {o : Option Obj} (hb : b < x0.heap.size) (hG : ¬ G b) (hc : x0.heap[b]? = o) : x.heap[b]? = o := by
  rw [h.only.block b hb hG]; exact hc
theorem freeM_alloc (c : FreeC N J x0 M0 M1 G L) (hz : l.size = N) (e : FrE) (he : e ∈ L) (hn : l.getD e.A false = false) (h : FreeM J x0 M0 M1 G L v l x) :
    FreeM J x0 M0 M1 G L (updV v e.A (.pointer (some ⟨x.heap.size, 0, none⟩))) (l.setIfInBounds e.A true) (x.alloc (.cells e.Z e.t)) := by
  have e1 : (l.setIfInBounds e.A true).getD e.A false = true := by have := (c.AN e he).1; simp [hz, this]
  have hnb : l.getD e.B false = false := by
    cases hb : l.getD e.B false with
    | false => rfl
    | true => have := h.ord e he hb; rw [hn] at this; cases this
  have hoA : Only (fun b => x0.heap.size ≤ b) x (x.alloc (.cells e.Z e.t)) := (Only.refl _ x).alloc _
  refine { mem := ?_, only := h.only.alloc _, blk := fun f hf ha => ?_, ord := fun f hf hb => ?_, ne := fun f hf f' hf' hne ha ha' => ?_ }
  · rw [getD_set_ne false (fun e' => c.JA e he e'.symm)]
    have := h.mem
    cases hj : l.getD J false with
    | false => rw [hj] at this; exact c.k0 _ _ this hoA
    | true => rw [hj] at this; exact c.k1 _ _ this hoA
  · rw [getD_set_ne false (c.AB e he f hf)]
    by_cases hfe : f.A = e.A
    · obtain rfl := c.one f hf e he hfe
      rw [updV_same, hnb]
      exact ⟨_, rfl, h.only.size, new_block _ _⟩
    · rw [updV_ne _ hfe]
      rw [getD_set_ne false (fun e' => hfe e'.symm)] at ha
      obtain ⟨r, a, b, d⟩ := h.blk f hf ha
      exact ⟨r, a, b, keep_old (old_alloc (old_refl x) _) d⟩
  · rw [getD_set_ne false (c.AB e he f hf)] at hb
    by_cases hfe : f.A = e.A
    · rw [hfe]; exact e1
    · rw [getD_set_ne false (fun e' => hfe e'.symm)]; exact h.ord f hf hb
  · by_cases h1 : f.A = e.A
    · by_cases h2 : f'.A = e.A
      · exact absurd (h1.trans h2.symm) hne
      · rw [h1, updV_same, updV_ne _ h2]
        rw [getD_set_ne false (fun e' => h2 e'.symm)] at ha'
        obtain ⟨r, a, b, d⟩ := h.blk f' hf' ha'
        rw [a]
        intro hh
        injection hh with hh; injection hh with hh; injection hh with hh
        have := lt_of_block d
        omega
    · rw [getD_set_ne false (fun e' => h1 e'.symm)] at ha
      rw [updV_ne _ h1]
      by_cases h2 : f'.A = e.A
      · rw [h2, updV_same]
        obtain ⟨r, a, b, d⟩ := h.blk f hf ha
        rw [a]
        intro hh
        injection hh with hh; injection hh with hh; injection hh with hh
        have := lt_of_block d
        omega
      · rw [getD_set_ne false (fun e' => h2 e'.symm)] at ha'
        rw [updV_ne _ h2]
        exact h.ne f hf f' hf' hne ha ha'
theorem freeM_store (c : FreeC N J x0 M0 M1 G L) (hz : l.size = N) (e : FrE) (he : e ∈ L) {r : Nat} (ha : l.getD e.A false = true) (hv : v e.A = .pointer (some ⟨r, 0, none⟩)) (h : FreeM J x0 M0 M1 G L v l x) :
    FreeM J x0 M0 M1 G L v (l.setIfInBounds e.B true) (putB x r (.cells e.Q e.t)) := by
  obtain ⟨r', a, b, d⟩ := h.blk e he ha
  rw [hv] at a
  obtain rfl : r = r' := by injection a with a; injection a with a; injection a
  have e1 : (l.setIfInBounds e.B true).getD e.B false = true := by have := (c.AN e he).2; simp [hz, this]
  have hoA : Only (fun b => x0.heap.size ≤ b) x (putB x r (.cells e.Q e.t)) := (Only.refl _ x).putB _ (fun _ => b)
  have hr := lt_of_block d
  refine { mem := ?_, only := h.only.putB _ (fun hlt => by omega), blk := fun f hf hb => ?_, ord := fun f hf hb => ?_, ne := fun f hf f' hf' hne hb hb' => ?_ }
  · rw [getD_set_ne false (fun e' => c.JB e he e'.symm)]
    have := h.mem
    cases hj : l.getD J false with
    | false => rw [hj] at this; exact c.k0 _ _ this hoA
    | true => rw [hj] at this; exact c.k1 _ _ this hoA
  · rw [getD_set_ne false (fun e' => c.AB f hf e he e'.symm)] at hb
    by_cases hfe : f.A = e.A
    · obtain rfl := c.one f hf e he hfe
      rw [e1]
      exact ⟨r, hv, b, putB_same _ hr⟩
    · rw [getD_set_ne false (fun e' => c.BB e he f hf (fun e'' => hfe e''.symm) e')]
      obtain ⟨s, a', b', d'⟩ := h.blk f hf hb
      refine ⟨s, a', b', ?_⟩
      have hne := h.ne f hf e he hfe hb ha
      rw [putB_other _ (fun e' => hne (by rw [a', hv, e']))]
      exact d'
  · rw [getD_set_ne false (fun e' => c.AB f hf e he e'.symm)]
    by_cases hfe : f.A = e.A
    · rw [hfe]; exact ha
    · rw [getD_set_ne false (fun e' => c.BB e he f hf (fun e'' => hfe e''.symm) e')] at hb
      exact h.ord f hf hb
  · rw [getD_set_ne false (fun e' => c.AB f hf e he e'.symm)] at hb
    rw [getD_set_ne false (fun e' => c.AB f' hf' e he e'.symm)] at hb'
    exact h.ne f hf f' hf' hne hb hb'
/-- Behind all: the block. -/
theorem freeM_end (h : FreeM J x0 M0 M1 G L v l x) (e : FrE) (he : e ∈ L) (hA : l.getD e.A false = true) (hB : l.getD e.B false = true) : ∃ r, v e.A = .pointer (some ⟨r, 0, none⟩) ∧ x0.heap.size ≤ r ∧ x.heap[r]? = some (.cells e.Q e.t) := by
  obtain ⟨r, a, b, d⟩ := h.blk e he hA
  rw [hB] at d
  exact ⟨r, a, b, d⟩
/-- Which object an operation allocates. -/
def freeF (L : List FrE) (j : Nat) : Option Obj := (L.find? (fun e => e.A == j)).map (fun e => .cells e.Z e.t)
theorem freeF_spec {j : Nat} {C : Obj} (h : freeF L j = some C) : ∃ e ∈ L, e.A = j ∧ C = .cells e.Z e.t := by
  unfold freeF at h
  cases hf : L.find? (fun e => e.A == j) with
  | none => rw [hf] at h; cases h
  | some e =>
    rw [hf] at h
    refine ⟨e, List.mem_of_find?_eq_some hf, by have := List.find?_some hf; simpa using this, ?_⟩
    simpa using h.symm
theorem freeM_free (c : FreeC N J x0 M0 M1 G L) (j : Nat) (C : Obj) (v : Nat → Value) (l : Array Bool) (x : World) (hF : freeF L j = some C) (hz : l.size = N) (hn : l.getD j false = false) (h : FreeM J x0 M0 M1 G L v l x) :
    FreeM J x0 M0 M1 G L (updV v j (.pointer (some ⟨x.heap.size, 0, none⟩))) (l.setIfInBounds j true) (x.alloc C) := by
  obtain ⟨e, he, rfl, rfl⟩ := freeF_spec hF
  exact freeM_alloc c hz e he hn h
end
/-- As FreeM, with a store into a block b that was there before (operation B). -/
structure FixM (B b : Nat) (Z Q : Array Value) (t : TypeId) (l : Array Bool) (x : World) : Prop where
  blk : x.heap[b]? = some (.cells (bif l.getD B false then Q else Z) t)
section
variable {N J B b : Nat} {Z Q : Array Value} {t : TypeId} {x0 x y : World} {M0 M1 : World → Prop} {G G0 : Nat → Prop} {L : List FrE} {v : Nat → Value} {l : Array Bool}
theorem freeM_quiet (j : Nat) (hJ : j ≠ J) (hL : ∀ e ∈ L, j ≠ e.A ∧ j ≠ e.B) (c : FreeC N J x0 M0 M1 G L) (h : FreeM J x0 M0 M1 G L v l x) (ho : Old x y) (hk0 : M0 x → M0 y) (hk1 : M1 x → M1 y) : FreeM J x0 M0 M1 G L v (l.setIfInBounds j true) y := by
  refine freeM_other j hJ hL { mem := ?_, only := h.only.trans ((Only.of_below ho).mono fun b _ f => f.elim), blk := fun e he ha => ?_, ord := h.ord, ne := h.ne }
  · have := h.mem
    cases hj : l.getD J false with
    | false => rw [hj] at this; exact hk0 this
    | true => rw [hj] at this; exact hk1 this
  · obtain ⟨r, a, b, d⟩ := h.blk e he ha
    exact ⟨r, a, b, keep_old ho d⟩
theorem fixM_start {n : Nat} (h : x0.heap[b]? = some (.cells Z t)) : FixM B b Z Q t (Array.replicate n false) x0 := by
  have e : ∀ k, (Array.replicate n false).getD k false = false := fun k => by simp [Array.getElem?_replicate]; split <;> rfl
  exact { blk := by rw [e]; exact h }
theorem fixM_other (j : Nat) (hj : j ≠ B) (h : FixM B b Z Q t l x) : FixM B b Z Q t (l.setIfInBounds j true) x := { blk := by rw [getD_set_ne false hj]; exact h.blk }
theorem fixM_only (j : Nat) (hj : j ≠ B) (h : FixM B b Z Q t l x) (ho : Only G0 x y) (hb : ¬ G0 b) : FixM B b Z Q t (l.setIfInBounds j true) y := { blk := by rw [getD_set_ne false hj]; exact keep_only ho hb h.blk }
theorem fixM_store (hz : l.size = N) (hB : B < N) (h : FixM B b Z Q t l x) : FixM B b Z Q t (l.setIfInBounds B true) (putB x b (.cells Q t)) := by
  have e1 : (l.setIfInBounds B true).getD B false = true := by simp [hz, hB]
  exact { blk := by rw [e1]; exact putB_same _ (lt_of_block h.blk) }
/-- The store into the old block leaves the rest. -/
theorem freeM_fixed (j : Nat) (hJ : j ≠ J) (hL : ∀ e ∈ L, j ≠ e.A ∧ j ≠ e.B) (hb : b < x0.heap.size) (hG : G b) (o : Obj) (hk0 : M0 x → M0 (putB x b o)) (hk1 : M1 x → M1 (putB x b o)) (h : FreeM J x0 M0 M1 G L v l x) : FreeM J x0 M0 M1 G L v (l.setIfInBounds j true) (putB x b o) := by
  refine freeM_other j hJ hL { mem := ?_, only := h.only.putB _ (fun _ => hG), blk := fun e he ha => ?_, ord := h.ord, ne := h.ne }
  · have := h.mem
    cases hj : l.getD J false with
    | false => rw [hj] at this; exact hk0 this
    | true => rw [hj] at this; exact hk1 this
  · obtain ⟨r, a, b', d⟩ := h.blk e he ha
    exact ⟨r, a, b', by rw [putB_other _ (by omega)]; exact d⟩
end
theorem walkedG_step {P : Program} {ops : Array Oper} {S : (Nat → Value) → Array Bool → World → Prop} {F : Nat → Option Obj} {n j : Nat} {Qf : (Nat → Value) → Act → Prop} {o : Oper} {r : List Oper} {a : (Nat → Value) → Act} (a' : (Nat → Value) → Act) (u : Value) (ha : ∀ v, a' v = (a v).put o.dst u) (hj : F j = none)
    (hg : ∀ v, GivesM P ops (S v) n j o (a v) (a' v)) (hr : WalkedG P ops S F n Qf r (j + 1) a') : WalkedG P ops S F n Qf (o :: r) j a := by
  have e : a' = fun v => (a v).put o.dst u := funext ha
  subst e
  exact walkedG_cons u hj hg hr
end Go.Proofs.Ytlbehhbicmmdoaa
/- The edits of layer 14's world. -/
namespace Go.Proofs.Ytlbehhbicmmdoaa
set_option linter.unusedVariables false
set_option linter.unusedSimpArgs false
open Go.ChangeShapes Go.WideShapes Go.Deep Go.RowKit Go.Joins
/-- An edit. -/
structure Ed where
  wh : Int
  ix : Int
  d : D6
  raw : Bool
  w : Nat
def Ed.cells (e : Ed) : List Value := [.int .i64 e.wh, .int .i64 e.ix, .int .i64 e.d.k, .int .u64 (e.d.a : Nat), .bool e.d.r, .bool e.d.w, .bool e.d.x, .int .i64 e.d.s, .bool e.raw, .int .u64 (e.w : Nat)]
/-- A slice of edits reads as l. -/
def Edits (w : World) (ad : Option Addr) (l : List Ed) : Prop :=
  ∀ (i : Nat) (e : Ed), l[i]? = some e → e.d.a < 18446744073709551616 ∧ e.w < 18446744073709551616 ∧ ∃ b off, ad = some ⟨b, off, none⟩ ∧ b < w.heap.size ∧ ∀ (c : Nat) (v : Value), e.cells[c]? = some v → w.cell? ⟨b, off + i * 10 + c, none⟩ = some v
theorem edits_old {w x : World} {ad : Option Addr} {l : List Ed} (h : Edits w ad l) (ho : Old w x) : Edits x ad l := by
  intro i y hy
  obtain ⟨h1, h2, b, off, e, hb, hc⟩ := h i y hy
  exact ⟨h1, h2, b, off, e, Nat.lt_of_lt_of_le hb ho.size, fun c v hv => by rw [ho.cell (p := ⟨b, off + i * 10 + c, none⟩) hb]; exact hc c v hv⟩
end Go.Proofs.Ytlbehhbicmmdoaa
/- The argument []Edit of the statements of layer 14. -/
namespace Go.Proofs.Ytlbehhbicmmdoaa
set_option linter.unusedVariables false
set_option linter.unusedSimpArgs false
open Go.ChangeShapes Go.WideShapes Go.Deep Go.RowKit Go.Joins
section
variable {H : Type} {enc : TypeId × Value → H} {P : Program} {w : World}
end
end Go.Proofs.Ytlbehhbicmmdoaa
/- Layer 14's world: its small functions, and what holds while it is made. -/
namespace Go.Proofs.Ytlbehhbicmmdoaa
set_option linter.unusedVariables false
set_option linter.unusedSimpArgs false
open Go.RowKit
theorem i64_mask511 (n : Int) : bits .and .i64 n 511 = n % 512 := by
  have h0 : (BitVec.ofInt 64 511).toNat = 2 ^ 9 - 1 := by decide
  have key : (BitVec.ofInt 64 n &&& BitVec.ofInt 64 511).toNat = (n % ((2 ^ 64 : Nat) : Int)).toNat % 2 ^ 9 := by
    rw [BitVec.toNat_and, BitVec.toNat_ofInt, h0, Nat.and_two_pow_sub_one_eq_mod]
  show IntKind.i64.wrap ((BitVec.ofInt 64 n &&& BitVec.ofInt 64 511).toNat : Nat) = n % 512
  rw [key, IntKind.wrap_i64]
  omega
def frN (p : Nat) : Nat := 8 + (p * 5 + 3) % 24
theorem frN_lt (p : Nat) : frN p < 32 := by unfold frN; omega
set_option maxRecDepth 100000 in
theorem frame14_calls (p : Nat) (hp : p ≤ 30) (w : World) : Calls Try.prog 40 #[.int .i64 (p : Nat)] w (RetB w (.int .i64 (frN p : Nat))) := by
  have h30 : (p : Int) ≤ 30 := by omega
  have e : 8 + ((p : Int) * 5 + 3).tmod 24 = ((frN p : Nat) : Int) := by
    rw [Int.tmod_eq_emod_of_nonneg (by omega)]
    unfold frN; omega
  obtain ⟨R, hR⟩ : ∃ R : Int, ((p : Int) * 5 + 3).tmod 24 = R := ⟨_, rfl⟩
  have hR2 : 0 ≤ R ∧ R ≤ 23 := by
    rw [← hR, Int.tmod_eq_emod_of_nonneg (by omega)]; omega
  rw [hR] at e
  have e1 : wrap64 (8 + R) = 8 + R := IntWalk.wrap64_in _ (by omega)
  rw [← e]
  clear e hp
  have hR3 := hR2.1
  have hR4 := hR2.2
  clear hR2
  go_enter Try.func40, Try.ntmps40
  go_wp2
  go_ret
  exact ⟨rfl, old_refl _⟩
set_option maxRecDepth 100000 in
theorem all14_calls (w : World) : Calls Try.prog 56 #[] w (RetB w (.agg #[.bool true, .bool true, .bool true])) := by
  have hb := new_block w (.cells #[.bool false, .bool false, .bool false] 46)
  go_enter Try.func56, Try.ntmps56
  go_wp2_with (refine wpList_store_whole rfl 46 _ _ rfl w.heap.size [Value.bool true, .bool true, .bool true] rfl rfl 46 _ hb (by kernel_rfl) rfl (by intro v hv; simp only [List.mem_cons, List.not_mem_nil, or_false] at hv; rcases hv with rfl | rfl | rfl <;> rfl) ?_)
  have h9 := putB_same (.cells #[.bool true, .bool true, .bool true] 46) (lt_of_block hb)
  obtain ⟨k9, -, -⟩ := of_block h9
  refine bodyPost_ret (by simp [results, Try.results56, go_sem, k9]; try rfl) rfl ?_
  exact ⟨rfl, old_put (old_alloc (old_refl w) _) _ (Nat.le_refl _)⟩
set_option maxHeartbeats 4000000 in
set_option maxRecDepth 100000 in
theorem word14_calls (st lv k : Int) (a : Nat) (r wr x : Bool) (s : Int) (w : World) : Calls Try.prog 43 #[.int .i64 st, .int .i64 lv, descV k a r wr x s] w (RetB w (.int .u64 (encW st lv k a r wr x s : Nat))) := by
  have hO := old_alloc (old_refl w) (.cells #[.int .i64 k, .int .u64 (a : Nat), .bool r, .bool wr, .bool x, .int .i64 s] 48)
  have hb := new_block w (.cells #[.int .i64 k, .int .u64 (a : Nat), .bool r, .bool wr, .bool x, .int .i64 s] 48)
  have hc := fun y => refEncode_calls st lv k a r wr x s y
  have HO := Lib.hid hO
  clear hO
  go_enter Try.func43, Try.ntmps43
  obtain ⟨k1, q1, z1⟩ := of_block hb
  generalize encW st lv k a r wr x s = E at *
  generalize checkC st lv k a r wr x s = C at *
  go_wp2_with ((go_at_call 44); (with_reducible refine (hc _).mono ?_); rintro e w1 ⟨rfl, hb1⟩)
  go_ret
  exact ⟨rfl, old_then HO.out hb1⟩
/-- A memory, the variable that names it, and blocks B of one's own; all that was there ahead is as it was. -/
def WorS (w0 : World) (mb p : Nat) (B : Nat → Prop) (wd : Nat → Nat) (N : Nat) (x : World) : Prop :=
  ∃ X : Nat → Prop, (∀ b, X b → b < x.heap.size) ∧ (∀ b, b < w0.heap.size → X b) ∧ X mb ∧ (∀ b, B b → X b) ∧ IsMemW x X p 40 wd N ∧ x.heap[mb]? = some (.cells #[.pointer (some ⟨p, 0, none⟩)] 61) ∧ Old w0 x
section
variable {w0 x y : World} {mb p N : Nat} {B B' : Nat → Prop} {wd : Nat → Nat}
theorem worS_old (h : WorS w0 mb p B wd N x) (ho : Old x y) : WorS w0 mb p B wd N y := by
  obtain ⟨X, h1, h2, h3, h4, h5, h6, h7⟩ := h
  exact ⟨X, fun b hb => Nat.lt_of_lt_of_le (h1 b hb) ho.size, h2, h3, h4, memW_old h5 ho, keep_old ho h6, old_then h7 ho⟩
theorem worS_le {M : Nat} (h : WorS w0 mb p B wd N x) (hM : N ≤ M) : WorS w0 mb p B wd M x := by
  obtain ⟨X, h1, h2, h3, h4, h5, h6, h7⟩ := h
  exact ⟨X, h1, h2, h3, h4, memW_le h5 hM, h6, h7⟩
theorem worS_less (h : WorS w0 mb p B wd N x) (hB : ∀ b, B' b → B b) : WorS w0 mb p B' wd N x := by
  obtain ⟨X, h1, h2, h3, h4, h5, h6, h7⟩ := h
  exact ⟨X, h1, h2, h3, fun b hb => h4 b (hB b hb), h5, h6, h7⟩
/-- New blocks become one's own. -/
theorem worS_new (h : WorS w0 mb p B wd N x) (ho : Old x y) (hB : ∀ b, B' b → B b ∨ (x.heap.size ≤ b ∧ b < y.heap.size)) : WorS w0 mb p B' wd N y := by
  obtain ⟨X, h1, h2, h3, h4, h5, h6, h7⟩ := h
  refine ⟨fun b => X b ∨ (x.heap.size ≤ b ∧ b < y.heap.size), ?_, fun b hb => .inl (h2 b hb), .inl h3, fun b hb => (hB b hb).imp (h4 b) id, memW_old (memW_more h5 (fun b hb => hb.imp id And.left)) ho, keep_old ho h6, old_then h7 ho⟩
  intro b hb
  rcases hb with hb | hb
  · exact Nat.lt_of_lt_of_le (h1 b hb) ho.size
  · exact hb.2
theorem worS_mb (h : WorS w0 mb p B wd N x) : x.heap[mb]? = some (.cells #[.pointer (some ⟨p, 0, none⟩)] 61) := by
  obtain ⟨X, h1, h2, h3, h4, h5, h6, h7⟩ := h
  exact h6
/-- What a put tells: one's own blocks are as they were. -/
def RetPut (w0 : World) (mb p : Nat) (B : Nat → Prop) (wd : Nat → Nat) (N : Nat) (x : World) (e : Ending) (y : World) : Prop :=
  e = .returned (.bool true) ∧ WorS w0 mb p B wd N y ∧ ∀ b, B b → y.heap[b]? = x.heap[b]?
set_option maxHeartbeats 4000000 in
set_option maxRecDepth 100000 in
theorem put14_calls (h : WorS w0 mb p B wd N x) (hN : N < 3999999990) (a v : Nat) (ha : okM 40 a = true) (ha64 : a < 18446744073709551616) (hv : v < 18446744073709551616) :
    Calls Try.prog 55 #[.int .u64 (a : Nat), .int .u64 (v : Nat), .pointer (some ⟨mb, 0, none⟩)] x (RetPut w0 mb p B (updW wd a v) (N + 1) x) := by
  obtain ⟨X, h1, h2, h3, h4, h5, h6, h7⟩ := h
  have hc := memW_write h5 h1 (by omega) a v ha64 hv ha
  obtain ⟨k1, q1, z1⟩ := of_block h6
  have H := Lib.hid (And.intro h1 (And.intro h2 (And.intro h3 (And.intro h4 (And.intro h6 h7)))))
  clear h1 h2 h3 h4 h5 h6 h7 ha ha64 hv hN
  go_enter Try.func55, Try.ntmps55
  go_wp2_with fail
  (with_reducible refine hc.mono ?_)
  rintro e y ⟨rfl, hm, ho⟩
  have HM := Lib.hid (And.intro hm ho)
  clear hc hm ho k1 q1 z1
  go_wp2
  go_ret
  obtain ⟨h1, h2, h3, h4, h6, h7⟩ := H.out
  obtain ⟨hm, ho⟩ := HM.out
  refine ⟨rfl, ⟨X, fun b hb => Nat.lt_of_lt_of_le (h1 b hb) ho.size, h2, h3, h4, hm, keep_only ho (fun f => f h3) h6, Only.to_below ((Only.of_below h7).step ho (fun b hb f => by
    have := h2 b
    exact absurd (this (by omega)) f))⟩, fun b hb => ?_⟩
  exact ho.block b (h1 b (h4 b hb)) (fun f => f (h4 b hb))
end
/-- A block of one's own is turned. -/
theorem worS_putB {w0 x : World} {mb p N : Nat} {B : Nat → Prop} {wd : Nat → Nat} (h : WorS w0 mb p B wd N x) {b : Nat} (hb : B b) (hm : b ≠ mb) (h0 : w0.heap.size ≤ b) (o : Obj) : WorS w0 mb p B wd N (putB x b o) := by
  obtain ⟨X, h1, h2, h3, h4, h5, h6, h7⟩ := h
  have ho : Only (fun c => c = b) x (putB x b o) := (Only.refl _ x).putB _ (fun _ => rfl)
  exact ⟨X, fun c hc => by rw [putB_size]; exact h1 c hc, h2, h3, h4, memW_only h5 ho (fun c hc e => by subst e; exact hc (h4 c hb)), keep_only ho (fun e => hm e.symm) h6, old_put h7 _ h0⟩
/-- A drawn statement with one call that turns the world. -/
def StageP (J : Nat) (M0 M1 : World → Prop) (l : Array Bool) (x : World) : Prop := bif l.getD J false then M1 x else M0 x
theorem stageP_start {J n : Nat} {M0 M1 : World → Prop} {x : World} (h : M0 x) : StageP J M0 M1 (Array.replicate n false) x := by
  have e : (Array.replicate n false).getD J false = false := by simp [Array.getElem?_replicate]; split <;> rfl
  unfold StageP; rw [e]; exact h
theorem stageP_other {J : Nat} {M0 M1 : World → Prop} {l : Array Bool} {x : World} (j : Nat) (hj : j ≠ J) (h : StageP J M0 M1 l x) : StageP J M0 M1 (l.setIfInBounds j true) x := by
  unfold StageP at h ⊢; rw [getD_set_ne false hj]; exact h
theorem stageP_quiet {J : Nat} {M0 M1 : World → Prop} {l : Array Bool} {x y : World} (j : Nat) (hj : j ≠ J) (h : StageP J M0 M1 l x) (h0 : M0 x → M0 y) (h1 : M1 x → M1 y) : StageP J M0 M1 (l.setIfInBounds j true) y := by
  unfold StageP at h ⊢; rw [getD_set_ne false hj]
  cases hb : l.getD J false with
  | false => rw [hb] at h; exact h0 h
  | true => rw [hb] at h; exact h1 h
theorem stageP_before {J : Nat} {M0 M1 : World → Prop} {l : Array Bool} {x : World} (hn : l.getD J false = false) (h : StageP J M0 M1 l x) : M0 x := by
  unfold StageP at h; rw [hn] at h; exact h
theorem stageP_behind {J : Nat} {M0 M1 : World → Prop} {l : Array Bool} {x : World} (hn : l.getD J false = true) (h : StageP J M0 M1 l x) : M1 x := by
  unfold StageP at h; rw [hn] at h; exact h
theorem stageP_done {J n : Nat} {M0 M1 : World → Prop} {l : Array Bool} {y : World} (hz : l.size = n) (hJ : J < n) (h : M1 y) : StageP J M0 M1 (l.setIfInBounds J true) y := by
  have e : (l.setIfInBounds J true).getD J false = true := by simp [hz, hJ]
  unfold StageP; rw [e]; exact h
theorem stageP_fact {J : Nat} {M0 M1 Φ : World → Prop} {l : Array Bool} {x : World} (h : StageP J M0 M1 l x) (h0 : M0 x → Φ x) (h1 : M1 x → Φ x) : Φ x := by
  unfold StageP at h
  cases hb : l.getD J false with
  | false => rw [hb] at h; exact h0 h
  | true => rw [hb] at h; exact h1 h
/-- The words of the world, step by step. -/
def wdA : Nat → Nat → Nat
  | 0 => fun _ => 0
  | i + 1 => updW (updW (wdA i) ((i + 1) * 4096) (encW 2 (i : Nat) 1 ((i + 2) * 4096) false false false 0)) (frN i * 4096) (encW 1 (i : Nat) 1 ((i + 1) * 4096) false false false 0)
def wdB : Nat → Nat → Nat
  | 0 => wdA 3
  | i + 1 => updW (wdB i) (16384 + i * 8) (encW 2 3 3 (frN i * 4096) true (decide (i % 5 ≠ 4)) (decide (i % 3 ≠ 2)) 0)
def wdC : Nat → Nat → Nat
  | 0 => wdB 24
  | i + 1 => updW (wdC i) (frN 3 * 4096 + i * 8) (encW 1 3 3 ((i + 4) * 4096) true (decide (i % 4 ≠ 3)) (decide (i % 7 ≠ 1)) 0)
end Go.Proofs.Ytlbehhbicmmdoaa
/- Masks of words, and the access that layer 14's statements draw. No function of the program stands here. -/
namespace Go.Proofs.Ytlbehhbicmmdoaa
set_option linter.unusedVariables false
set_option linter.unusedSimpArgs false
open Go.RowKit
/-- The access that is drawn. -/
theorem access_of (ac : Int) : ∃ (M : Nat) (r : Int), bits .and .i64 ac 3 = (M : Int) ∧ M ≤ 3 ∧ (M : Int).tmod 3 = r ∧ (M : Int) % 3 = r ∧ (1 + r = 1 ∨ 1 + r = 2 ∨ 1 + r = 3) ∧ 0 ≤ r ∧ r ≤ 2 := by
  refine ⟨(ac % 4).toNat, ((ac % 4).toNat : Int) % 3, by rw [i64_mask3]; omega, by omega, Int.tmod_eq_emod_of_nonneg (by omega), rfl, by omega, by omega, by omega⟩
end Go.Proofs.Ytlbehhbicmmdoaa
namespace Go.Proofs.Ytlbehhbicmmdoaa
set_option linter.unusedVariables false
set_option linter.unusedSimpArgs false
open Go.RowKit
/-- What Second tells. -/
def RetSec (w : World) (X : Nat → Prop) (p frames : Nat) (wd : Nat → Nat) (N : Nat) (q : O8 × F5 × Nat) (e : Ending) (y : World) : Prop :=
  e = .returned (.tuple #[.agg q.1.cells, .agg q.2.1.cells, .int .i64 (q.2.2 : Nat)]) ∧ IsMemW y X p frames wd N ∧ Only (fun b => ¬ X b) w y
theorem retSec_only {w y : World} {X : Nat → Prop} {p frames : Nat} {wd : Nat → Nat} {N n0 : Nat} {G : Nat → Prop} (hn : n0 = w.heap.size) (h : IsMemW y (fun b => X b ∨ n0 ≤ b) p frames wd N) (ho : Only G w y) (hG : ∀ b, G b → ¬ X b ∨ n0 ≤ b) :
    IsMemW y X p frames wd N ∧ Only (fun b => ¬ X b) w y :=
  ⟨memW_more h (fun b hb => .inl (.inl hb)), ho.mono fun b hb g => (hG b g).elim id (fun e => by omega)⟩
theorem only_putB2 {G : Nat → Prop} {w x : World} {b1 b2 : Nat} {o1 o2 : Obj} (h : Only G w x) (h1 : w.heap.size ≤ b1) (h2 : w.heap.size ≤ b2) : Only G w (putB (putB x b1 o1) b2 o2) := (h.putB o1 (fun e => by omega)).putB o2 (fun e => by omega)
theorem memW_putB2 {x : World} {X : Nat → Prop} {p frames N b1 b2 : Nat} {wd : Nat → Nat} {o1 o2 : Obj} (h : IsMemW x X p frames wd N) (h1 : X b1) (h2 : X b2) : IsMemW (putB (putB x b1 o1) b2 o2) X p frames wd N :=
  memW_only h (((Only.refl (fun b => b = b1 ∨ b = b2) x).putB o1 (fun _ => .inl rfl)).putB o2 (fun _ => .inr rfl)) (fun b hb e => by rcases e with rfl | rfl <;> exact hb (by assumption))
theorem memW_drew {x : World} {X : Nat → Prop} {p frames N : Nat} {wd : Nat → Nat} (h : IsMemW x X p frames wd N) : IsMemW x.drew X p frames wd N := memW_old h (old_drew (old_refl _))
theorem only_drew {G : Nat → Prop} {w x : World} (h : Only G w x) : Only G w x.drew := h.trans ((Only.of_below (old_drew (old_refl x))).mono fun b _ f => f.elim)
theorem retSec_end {w W : World} {X : Nat → Prop} {p frames N M mb b8 b9 n : Nat} {wd : Nat → Nat} {q : O8 × F5 × Nat} {o : O8} {f : F5} {o1 o2 : Obj} (hn : mb = w.heap.size) (hm : IsMemW W (fun b => X b ∨ mb ≤ b) p frames wd M) (hM : M ≤ N + 4) (ho : Only (fun b => ¬ (X b ∨ mb ≤ b) ∨ mb ≤ b) w W) (h8 : mb ≤ b8) (h9 : mb ≤ b9) (hq : q = (o, f, n)) :
    RetSec w X p frames wd (N + 4) q (.returned (.tuple #[.agg o.cells, .agg f.cells, .int .i64 (n : Nat)])) (putB (putB W.drew b8 o1) b9 o2) := by
  subst hq
  obtain ⟨a, b⟩ := retSec_only hn (memW_putB2 (memW_drew hm) (.inr h8) (.inr h9) (o1 := o1) (o2 := o2)) (only_putB2 (only_drew ho) (by omega) (by omega)) (fun b hb => hb.imp (fun h h' => h (.inl h')) id)
  exact ⟨rfl, memW_le a hM, b⟩
set_option maxHeartbeats 8000000 in
set_option maxRecDepth 100000 in
theorem second_calls {w : World} {X : Nat → Prop} {p frames : Nat} {wd : Nat → Nat} {N : Nat} (h : IsMemW w X p frames wd N) (hN : N < 3999999990) (two ipa : Nat) (htwo : two < 18446744073709551616) (hipa : ipa < 18446744073709551616) (access : Int) :
    Calls Try.prog 33 #[.pointer (some ⟨p, 0, none⟩), .int .u64 (two : Nat), .int .u64 (ipa : Nat), .int .i64 access] w (RetSec w X p frames wd (N + 4) (secondN (rawM frames wd) (okM frames) two ipa access)) := by
  obtain ⟨sto, hsto⟩ : ∃ sto, (access == 2) = sto := ⟨_, rfl⟩
  have hsd : decide (access = 2) = sto := by rw [← hsto]; rfl
  have HSD := Lib.hid hsd
  obtain ⟨q, hq⟩ : ∃ q, secondN (rawM frames wd) (okM frames) two ipa access = q := ⟨_, rfl⟩
  rw [hq]
  have HQ := Lib.hid hq
  have hraw := fun a => rawM_lt h a
  have hmem : ∀ x, Old w x → IsMemW x (fun b => X b ∨ w.heap.size ≤ b) p frames wd N := fun x hx => memW_old (memW_more h (fun b hb => hb)) hx
  have hlt : ∀ b, ¬ (X b ∨ w.heap.size ≤ b) → b < w.heap.size := fun b hb => Nat.lt_of_not_le (fun e => hb (.inr e))
  have HM := Lib.hid (And.intro hraw (And.intro hmem hlt))
  have HU := Lib.hid (And.intro hN (And.intro htwo hipa))
  clear h hsd hq hraw hmem hlt hN htwo
  go_enter Try.func33, Try.ntmps33
  go_upto_region 2 with (fail)
  have hH := holds_new #[.int .i64 2, .int .i64 4, .int .i64 (-1), .int .u64 (ipa : Nat), .bool sto] 67 (holds_new #[.int .i64 0, .int .i64 0, .int .i64 0, .int .u64 0, .bool false] 67 (holds_new #[.int .i64 0, .int .u64 0, .bool false, .bool false, .bool false, .bool false, .bool false, .bool false] 65 (holds_new #[.pointer (some ⟨p, 0, none⟩)] 61 (holds_nil w))))
  simp only [World.size_alloc] at hH
  have hsz : ((((w.alloc (.cells #[.pointer (some ⟨p, 0, none⟩)] 61)).alloc (.cells #[.int .i64 0, .int .u64 0, .bool false, .bool false, .bool false, .bool false, .bool false, .bool false] 65)).alloc (.cells #[.int .i64 0, .int .i64 0, .int .i64 0, .int .u64 0, .bool false] 67)).alloc (.cells #[.int .i64 2, .int .i64 4, .int .i64 (-1), .int .u64 (ipa : Nat), .bool sto] 67)).heap.size = w.heap.size + 1 + 1 + 1 + 1 := by simp only [World.size_alloc]
  generalize ((((w.alloc (.cells #[.pointer (some ⟨p, 0, none⟩)] 61)).alloc (.cells #[.int .i64 0, .int .u64 0, .bool false, .bool false, .bool false, .bool false, .bool false, .bool false] 65)).alloc (.cells #[.int .i64 0, .int .i64 0, .int .i64 0, .int .u64 0, .bool false] 67)).alloc (.cells #[.int .i64 2, .int .i64 4, .int .i64 (-1), .int .u64 (ipa : Nat), .bool sto] 67)) = X1 at *
  obtain ⟨bf, hbf⟩ : ∃ bf, bf = w.heap.size + 1 + 1 + 1 := ⟨_, rfl⟩
  obtain ⟨b9, hb9⟩ : ∃ b9, b9 = w.heap.size + 1 + 1 := ⟨_, rfl⟩
  obtain ⟨b8, hb8⟩ : ∃ b8, b8 = w.heap.size + 1 := ⟨_, rfl⟩
  obtain ⟨mb, hmb⟩ : ∃ mb, mb = w.heap.size := ⟨_, rfl⟩
  rw [← hbf, ← hb9, ← hb8, ← hmb] at hH
  rw [← hbf, ← hb9, ← hb8, ← hmb]
  have hmm := HM.out.2.1 X1 hH.1
  have hlt := HM.out.2.2
  rw [← hmb] at hmm hlt
  have HB := Lib.hid (And.intro hmb (And.intro hb8 (And.intro hb9 (And.intro hbf hsz))))
  have HX := Lib.hid (And.intro hmm hlt)
  have HNE : Hid (b8 ≠ b9 ∧ bf ≠ b8 ∧ bf ≠ b9 ∧ mb ≤ bf ∧ mb ≤ b8 ∧ mb ≤ b9) := Lib.hid (by omega)
  have hYf : ∀ b, mb ≤ b → (X b ∨ mb ≤ b) := fun b hb => .inr hb
  obtain ⟨hO, hKf, hK9, hK8, hKm, -⟩ := id hH
  have KF0 := hKf
  have K8 := hK8
  have K9 := hK9
  have HK := Lib.hid (And.intro hO (And.intro hKf (And.intro hK9 (And.intro hK8 hKm))))
  obtain ⟨km, qm, zm⟩ := of_block hKm
  obtain ⟨kf, qf, zf⟩ := of_block hKf
  clear hmb hb8 hb9 hbf hsz hmm hlt hYf hH hO hKf hK9 hK8 hKm KF0 K8 K9
  by_cases hi : 1099511627776 ≤ ipa
  · have hi1 : (1099511627776 : Int) ≤ ipa := by omega
    have hset : X1.setCell ⟨bf, 1, none⟩ (.int .i64 3) = putB X1 bf (.cells #[.int .i64 2, .int .i64 3, .int .i64 (-1), .int .u64 (ipa : Nat), .bool sto] 67) := by rw [set_of HK.out.2.1]; rfl
    have HQ6 : Hid (q = (O0, ⟨2, 3, -1, ipa, sto⟩, 0)) := Lib.hid (by rw [← HQ.out, ← HSD.out]; unfold secondN; exact if_pos hi)
    clear hi HM
    go_upto_region 6 with (fail)
    have KF := putB_same (.cells #[.int .i64 2, .int .i64 3, .int .i64 (-1), .int .u64 (ipa : Nat), .bool sto] 67) (lt_of_block HK.out.2.1)
    have K8 : (putB X1 bf (.cells #[.int .i64 2, .int .i64 3, .int .i64 (-1), .int .u64 (ipa : Nat), .bool sto] 67)).heap[b8]? = _ := (putB_other _ HNE.out.2.1).trans HK.out.2.2.2.1
    have K9 : (putB X1 bf (.cells #[.int .i64 2, .int .i64 3, .int .i64 (-1), .int .u64 (ipa : Nat), .bool sto] 67)).heap[b9]? = _ := (putB_other _ HNE.out.2.2.1).trans HK.out.2.2.1
    have hm := memW_only HX.out.1 ((Only.refl (fun b => b = bf) X1).putB (.cells #[.int .i64 2, .int .i64 3, .int .i64 (-1), .int .u64 (ipa : Nat), .bool sto] 67) (fun _ => rfl)) (fun b hb e => by subst e; exact hb (.inr HNE.out.2.2.2.1))
    have ho : Only (fun b => ¬ (X b ∨ mb ≤ b) ∨ mb ≤ b) w (putB X1 bf (.cells #[.int .i64 2, .int .i64 3, .int .i64 (-1), .int .u64 (ipa : Nat), .bool sto] 67)) := ((Only.of_below HK.out.1).mono fun b _ f => f.elim).putB _ (fun _ => .inr HNE.out.2.2.2.1)
    generalize putB X1 bf (.cells #[.int .i64 2, .int .i64 3, .int .i64 (-1), .int .u64 (ipa : Nat), .bool sto] 67) = W2 at *
    have HW2 := Lib.hid (And.intro hm ho)
    clear hm ho km qm zm kf qf zf hset hi1
    refine wp_region_staged (S := TwoS 2 3 b8 (.cells #[Value.int .i64 0, .int .u64 0, .bool false, .bool false, .bool false, .bool false, .bool false, .bool false] 65) b9 (.cells #[Value.int .i64 2, .int .i64 3, .int .i64 (-1), .int .u64 (ipa : Nat), .bool sto] 67) W2.drew) 5 (by kernel_rfl) (by kernel_rfl) (by kernel_rfl) (by decide) (two_start _) ?_
    apply walkedS_cons
    · intro l9 wS hz hn hS
      have hS9 := two_other 0 (by decide) (by decide) hS
      clear hS
      go_wp2
      exact ⟨rfl, rfl, hS9⟩
    · rfl
    (try simp only [Act.put, List.setIfInBounds_toArray, List.set_cons_succ, List.set_cons_zero])
    apply walkedS_cons
    · intro l9 wS hz hn hS
      have hS9 := two_other 1 (by decide) (by decide) hS
      have c9 := two_cell hS HNE.out.2.1 HNE.out.2.2.1 KF
      clear hS
      go_wp2
      exact ⟨rfl, rfl, hS9⟩
    · rfl
    (try simp only [Act.put, List.setIfInBounds_toArray, List.set_cons_succ, List.set_cons_zero])
    apply walkedS_cons
    · intro l9 wS hz hn hS
      have hb9 := two_first hn hS HNE.out.1 K8
      have hd9 := two_done1 hz (by decide) (by decide) hn HNE.out.1 hS
      refine wpList_store_whole rfl 65 _ _ rfl b8 [Value.int .i64 0, .int .u64 0, .bool false, .bool false, .bool false, .bool false, .bool false, .bool false] rfl rfl 65 _ hb9 (by kernel_rfl) rfl (by intro v hv; simp only [List.mem_cons, List.not_mem_nil, or_false] at hv; rcases hv with rfl | rfl | rfl | rfl | rfl | rfl | rfl | rfl <;> rfl) ?_
      exact ⟨rfl, rfl, hd9⟩
    · rfl
    (try simp only [Act.put, List.setIfInBounds_toArray, List.set_cons_succ, List.set_cons_zero])
    apply walkedS_cons
    · intro l9 wS hz hn hS
      have hb9 := two_second hn hS HNE.out.1 K9
      have hd9 := two_done2 hz (by decide) (by decide) hn hS
      refine wpList_store_whole rfl 67 _ _ rfl b9 [Value.int .i64 2, .int .i64 3, .int .i64 (-1), .int .u64 (ipa : Nat), .bool sto] rfl rfl 67 _ hb9 (by kernel_rfl) rfl (by intro v hv; simp only [List.mem_cons, List.not_mem_nil, or_false] at hv; rcases hv with rfl | rfl | rfl | rfl | rfl <;> rfl) ?_
      exact ⟨rfl, rfl, hd9⟩
    · rfl
    (try simp only [Act.put, List.setIfInBounds_toArray, List.set_cons_succ, List.set_cons_zero])
    apply walkedS_cons
    · intro l9 wS hz hn hS
      have hS9 := two_other 4 (by decide) (by decide) hS
      clear hS
      go_wp2
      exact ⟨rfl, rfl, hS9⟩
    · rfl
    (try simp only [Act.put, List.setIfInBounds_toArray, List.set_cons_succ, List.set_cons_zero])
    apply walkedS_nil
    intro l9 wS hz hall hS
    obtain rfl := two_all (hall 2 (by decide)) (hall 3 (by decide)) hS
    clear hS hall hz l9
    show wpList _ _ _ [] _ _
    go_wp2
    have r8 : (putB (putB W2.drew b8 (.cells #[Value.int .i64 0, .int .u64 0, .bool false, .bool false, .bool false, .bool false, .bool false, .bool false] 65)) b9 (.cells #[Value.int .i64 2, .int .i64 3, .int .i64 (-1), .int .u64 (ipa : Nat), .bool sto] 67)).heap[b8]? = some (.cells #[Value.int .i64 0, .int .u64 0, .bool false, .bool false, .bool false, .bool false, .bool false, .bool false] 65) := by rw [putB_other _ (Ne.symm HNE.out.1)]; exact putB_same _ (lt_of_block (show W2.drew.heap[b8]? = _ from K8))
    have r9 : (putB (putB W2.drew b8 (.cells #[Value.int .i64 0, .int .u64 0, .bool false, .bool false, .bool false, .bool false, .bool false, .bool false] 65)) b9 (.cells #[Value.int .i64 2, .int .i64 3, .int .i64 (-1), .int .u64 (ipa : Nat), .bool sto] 67)).heap[b9]? = some (.cells #[Value.int .i64 2, .int .i64 3, .int .i64 (-1), .int .u64 (ipa : Nat), .bool sto] 67) := putB_same _ (by rw [putB_size]; exact lt_of_block (show W2.drew.heap[b9]? = _ from K9))
    obtain ⟨k8, -, -⟩ := of_block r8
    obtain ⟨k9, -, -⟩ := of_block r9
    refine bodyPost_ret (by simp [results, Try.results33, go_sem, k8, k9]; try rfl) rfl ?_
    exact retSec_end HB.out.1 HW2.out.1 (by omega) HW2.out.2 HNE.out.2.2.2.2.1 HNE.out.2.2.2.2.2 HQ6.out
  have hi1 : decide ((1099511627776 : Int) ≤ (ipa : Int)) = false := decide_eq_false (by omega)
  have HI := Lib.hid hi
  clear hi
  go_upto_region 8 with (fail)
  have hO1 := old_alloc (old_refl X1) (.cells #[.int .i64 0] 3)
  have hKW := new_block X1 (.cells #[.int .i64 0] 3)
  have hsz : (X1.alloc (.cells #[.int .i64 0] 3)).heap.size = X1.heap.size + 1 := World.size_alloc _ _
  generalize X1.alloc (.cells #[.int .i64 0] 3) = X2 at *
  obtain ⟨wb, hwb⟩ : ∃ wb, wb = X1.heap.size := ⟨_, rfl⟩
  rw [← hwb] at hKW hsz ⊢
  have hwf : mb < wb ∧ b8 < wb ∧ b9 < wb ∧ bf < wb := by have := HB.out; omega
  have hG0 : SecS (fun b => X b ∨ mb ≤ b) mb wb p frames wd N X2.heap.size [] X2 :=
    ⟨memW_le (memW_old HX.out.1 hO1) (by simp), keep_old hO1 HK.out.2.2.2.2, hKW, .inr (Nat.le_refl _), .inr (by omega), by omega, by omega, by omega, fun b hb => by have := HX.out.2 b hb; have := HB.out.1; omega⟩
  have hwalk := walkA_calls 2 (.inr rfl) two ipa HU.out.2.1 HU.out.2.2 59 #[.pointer (some ⟨mb, 0, none⟩), .pointer (some ⟨wb, 0, none⟩)] (fun b => ¬ (X b ∨ mb ≤ b) ∨ b = wb) (SecS (fun b => X b ∨ mb ≤ b) mb wb p frames wd N X2.heap.size) (rawM frames wd) (okM frames) X2 (sec_reader HU.out.1 hG0 HM.out.1) hG0
  have hok := walk_ok (rawM frames wd) (okM frames) 2 ipa 4 0 two rfl (by decide)
  have hkinds := walk_kinds (raw := rawM frames wd) (ok := okM frames) (st := 2) (addr := ipa) 4 0 two
  have hflt := ask_filter (raw := rawM frames wd) (ok := okM frames) (st := 2) (addr := ipa) 4 0 two
  have hlen := ask_length (raw := rawM frames wd) (ok := okM frames) (st := 2) (addr := ipa) 4 0 two
  have hqd : ∀ r, walkN (rawM frames wd) (okM frames) 2 ipa 4 0 two = r → q = (if r.2 = -1 then (O0, ⟨2, 4, -1, ipa, sto⟩, r.1.length) else if r.2 ≠ 0 then (O0, ⟨2, r.2, -1, ipa, sto⟩, r.1.length)
      else if allowsB (lastN r.1).d.r (lastN r.1).d.w (lastN r.1).d.x access = false then (O0, ⟨2, 2, -1, ipa, sto⟩, r.1.length) else (⟨outN ipa (lastN r.1).lv (lastN r.1).d.k (lastN r.1).d.a / 4096, ipa / 4096, true, true, true, (lastN r.1).d.r, (lastN r.1).d.w, (lastN r.1).d.x⟩, F0, r.1.length)) := by
    rintro r rfl
    rw [← HQ.out, ← HSD.out]
    unfold secondN
    exact if_neg HI.out
  generalize hrr : walkN (rawM frames wd) (okM frames) 2 ipa 4 0 two = rr at *
  have hqd2 := hqd rr rfl
  generalize askN (rawM frames wd) (okM frames) 2 ipa 4 0 two = Z at *
  obtain ⟨L, K⟩ := rr
  have HQD := Lib.hid hqd2
  have HOK := Lib.hid (And.intro hok hkinds)
  have HZ := Lib.hid (And.intro hflt hlen)
  have HWB := Lib.hid (And.intro hwf (And.intro hO1 hsz))
  clear hO1 hKW hsz hwb hwf hG0 hok hkinds hflt hlen hqd hqd2 hrr km qm zm kf qf zf hi1 HI HQ
  go_wp2_with fail
  refine hwalk.mono ?_
  rintro e x2 ⟨v, rfl, hown, hS, hO2⟩
  have hown : x2.ownsRow X2.heap.size 52 9 v L.length (stCells L) := hown
  obtain ⟨s1, s2, s3, s4, s5, s6, s7, s8, s9⟩ := hS
  rw [HZ.out.1] at s3
  have s3 : x2.heap[wb]? = some (.cells #[.int .i64 (L.length : Nat)] 3) := s3
  have hsm := memW_le s1 (M := N + 4) (by have := HZ.out.2; omega)
  have hKF := keep_only hO2 (fun f => f.elim (fun f => f (.inr HNE.out.2.2.2.1)) (fun f => by have := HWB.out.1; omega)) (keep_old HWB.out.2.1 HK.out.2.1)
  have K9 := keep_only hO2 (fun f => f.elim (fun f => f (.inr HNE.out.2.2.2.2.2)) (fun f => by have := HWB.out.1; omega)) (keep_old HWB.out.2.1 HK.out.2.2.1)
  have K8 := keep_only hO2 (fun f => f.elim (fun f => f (.inr HNE.out.2.2.2.2.1)) (fun f => by have := HWB.out.1; omega)) (keep_old HWB.out.2.1 HK.out.2.2.2.1)
  have ho : Only (fun b => ¬ (X b ∨ mb ≤ b) ∨ mb ≤ b) w x2 := (((Only.of_below (old_then HK.out.1 HWB.out.2.1)).mono fun b _ f => f.elim)).trans (hO2.mono fun b _ f => f.elim .inl (fun e => .inr (by have := HWB.out.1; omega)))
  obtain ⟨a3, c3, rfl, hl3, hm3, -, q3⟩ := own_value hown
  have HR := Lib.hid (And.intro hsm (And.intro ho (And.intro hown q3)))
  obtain ⟨n, hn⟩ : ∃ n, L.length = n := ⟨_, rfl⟩
  rw [hn] at s3 ⊢
  have HN := Lib.hid hn
  have KW := s3
  have KF := hKF
  have hx2 := hO2.size
  have HSZ := Lib.hid hx2
  have HKK := Lib.hid (And.intro K8 (And.intro K9 (And.intro KW KF)))
  clear hwalk hown s1 s2 s3 s4 s5 s6 s7 s8 s9 hsm hKF ho hO2 hl3 hm3 q3 hn hx2
  by_cases hK : K = -1
  · subst hK
    have HQ6 : Hid (q = (O0, ⟨2, 4, -1, ipa, sto⟩, n)) := Lib.hid (by rw [HQD.out, ← HN.out]; rfl)
    have hm1 : decide ((-1 : Int) < 0) = true := by decide
    clear HQD K8 K9 KW KF
    go_upto_region 10 with (fail)
    obtain ⟨K8, K9, KW, KF⟩ := HKK.out
    refine wp_region_staged (S := TwoS 3 4 b8 (.cells #[Value.int .i64 0, .int .u64 0, .bool false, .bool false, .bool false, .bool false, .bool false, .bool false] 65) b9 (.cells #[Value.int .i64 2, .int .i64 4, .int .i64 (-1), .int .u64 (ipa : Nat), .bool sto] 67) x2.drew) 6 (by kernel_rfl) (by kernel_rfl) (by kernel_rfl) (by decide) (two_start _) ?_
    apply walkedS_cons
    · intro l9 wS hz hn hS
      have hS9 := two_other 0 (by decide) (by decide) hS
      clear hS
      go_wp2
      exact ⟨rfl, rfl, hS9⟩
    · rfl
    (try simp only [Act.put, List.setIfInBounds_toArray, List.set_cons_succ, List.set_cons_zero])
    apply walkedS_cons
    · intro l9 wS hz hn hS
      have hS9 := two_other 1 (by decide) (by decide) hS
      have c9 := two_cell hS HNE.out.2.1 HNE.out.2.2.1 KF
      clear hS
      go_wp2
      exact ⟨rfl, rfl, hS9⟩
    · rfl
    (try simp only [Act.put, List.setIfInBounds_toArray, List.set_cons_succ, List.set_cons_zero])
    apply walkedS_cons
    · intro l9 wS hz hn hS
      have hS9 := two_other 2 (by decide) (by decide) hS
      have c9 := two_cell hS (show wb ≠ b8 by have := HWB.out.1; omega) (show wb ≠ b9 by have := HWB.out.1; omega) KW
      clear hS
      go_wp2
      exact ⟨rfl, rfl, hS9⟩
    · rfl
    (try simp only [Act.put, List.setIfInBounds_toArray, List.set_cons_succ, List.set_cons_zero])
    apply walkedS_cons
    · intro l9 wS hz hn hS
      have hb9 := two_first hn hS HNE.out.1 K8
      have hd9 := two_done1 hz (by decide) (by decide) hn HNE.out.1 hS
      refine wpList_store_whole rfl 65 _ _ rfl b8 [Value.int .i64 0, .int .u64 0, .bool false, .bool false, .bool false, .bool false, .bool false, .bool false] rfl rfl 65 _ hb9 (by kernel_rfl) rfl (by intro v hv; simp only [List.mem_cons, List.not_mem_nil, or_false] at hv; rcases hv with rfl | rfl | rfl | rfl | rfl | rfl | rfl | rfl <;> rfl) ?_
      exact ⟨rfl, rfl, hd9⟩
    · rfl
    (try simp only [Act.put, List.setIfInBounds_toArray, List.set_cons_succ, List.set_cons_zero])
    apply walkedS_cons
    · intro l9 wS hz hn hS
      have hb9 := two_second hn hS HNE.out.1 K9
      have hd9 := two_done2 hz (by decide) (by decide) hn hS
      refine wpList_store_whole rfl 67 _ _ rfl b9 [Value.int .i64 2, .int .i64 4, .int .i64 (-1), .int .u64 (ipa : Nat), .bool sto] rfl rfl 67 _ hb9 (by kernel_rfl) rfl (by intro v hv; simp only [List.mem_cons, List.not_mem_nil, or_false] at hv; rcases hv with rfl | rfl | rfl | rfl | rfl <;> rfl) ?_
      exact ⟨rfl, rfl, hd9⟩
    · rfl
    (try simp only [Act.put, List.setIfInBounds_toArray, List.set_cons_succ, List.set_cons_zero])
    apply walkedS_cons
    · intro l9 wS hz hn hS
      have hS9 := two_other 5 (by decide) (by decide) hS
      clear hS
      go_wp2
      exact ⟨rfl, rfl, hS9⟩
    · rfl
    (try simp only [Act.put, List.setIfInBounds_toArray, List.set_cons_succ, List.set_cons_zero])
    apply walkedS_nil
    intro l9 wS hz hall hS
    obtain rfl := two_all (hall 3 (by decide)) (hall 4 (by decide)) hS
    clear hS hall hz l9
    show wpList _ _ _ [] _ _
    go_wp2
    have r8 : (putB (putB x2.drew b8 (.cells #[Value.int .i64 0, .int .u64 0, .bool false, .bool false, .bool false, .bool false, .bool false, .bool false] 65)) b9 (.cells #[Value.int .i64 2, .int .i64 4, .int .i64 (-1), .int .u64 (ipa : Nat), .bool sto] 67)).heap[b8]? = some (.cells #[Value.int .i64 0, .int .u64 0, .bool false, .bool false, .bool false, .bool false, .bool false, .bool false] 65) := by rw [putB_other _ (Ne.symm HNE.out.1)]; exact putB_same _ (lt_of_block (show x2.drew.heap[b8]? = _ from K8))
    have r9 : (putB (putB x2.drew b8 (.cells #[Value.int .i64 0, .int .u64 0, .bool false, .bool false, .bool false, .bool false, .bool false, .bool false] 65)) b9 (.cells #[Value.int .i64 2, .int .i64 4, .int .i64 (-1), .int .u64 (ipa : Nat), .bool sto] 67)).heap[b9]? = some (.cells #[Value.int .i64 2, .int .i64 4, .int .i64 (-1), .int .u64 (ipa : Nat), .bool sto] 67) := putB_same _ (by rw [putB_size]; exact lt_of_block (show x2.drew.heap[b9]? = _ from K9))
    obtain ⟨k8, -, -⟩ := of_block r8
    obtain ⟨k9, -, -⟩ := of_block r9
    refine bodyPost_ret (by simp [results, Try.results33, go_sem, k8, k9]; try rfl) rfl ?_
    exact retSec_end HB.out.1 HR.out.1 (Nat.le_refl _) HR.out.2.1 HNE.out.2.2.2.2.1 HNE.out.2.2.2.2.2 HQ6.out
  by_cases hK0 : K = 0
  case neg =>
    have HQ6 : Hid (q = (O0, ⟨2, K, -1, ipa, sto⟩, n)) := Lib.hid (by rw [HQD.out, ← HN.out]; show (if K = -1 then _ else _) = _; rw [if_neg hK, if_pos hK0])
    have hk1 : (0 : Int) ≤ K := by have h9 : K = -1 ∨ K = 0 ∨ K = 1 ∨ K = 3 ∨ K = 4 := HOK.out.2; omega
    have hk2 : (K != 0) = true := by simp [hK0]
    have hk3 : decide (K < 0) = false := decide_eq_false (by omega)
    have hset : x2.setCell ⟨bf, 1, none⟩ (.int .i64 K) = putB x2 bf (.cells #[.int .i64 2, .int .i64 K, .int .i64 (-1), .int .u64 (ipa : Nat), .bool sto] 67) := by rw [set_of KF]; rfl
    obtain ⟨kf, qf, zf⟩ := of_block KF
    clear HQD K8 K9 KW KF hK hK0 hk1
    go_upto_region 13 with (fail)
    obtain ⟨K8, K9, KW, KF0⟩ := HKK.out
    have KF := putB_same (.cells #[.int .i64 2, .int .i64 K, .int .i64 (-1), .int .u64 (ipa : Nat), .bool sto] 67) (lt_of_block KF0)
    have K8 := (putB_other (.cells #[.int .i64 2, .int .i64 K, .int .i64 (-1), .int .u64 (ipa : Nat), .bool sto] 67) HNE.out.2.1).trans K8
    have K9 := (putB_other (.cells #[.int .i64 2, .int .i64 K, .int .i64 (-1), .int .u64 (ipa : Nat), .bool sto] 67) HNE.out.2.2.1).trans K9
    have KW := (putB_other (.cells #[.int .i64 2, .int .i64 K, .int .i64 (-1), .int .u64 (ipa : Nat), .bool sto] 67) (show bf ≠ wb by have := HWB.out.1; omega)).trans KW
    have hm := memW_only HR.out.1 ((Only.refl (fun b => b = bf) x2).putB (.cells #[.int .i64 2, .int .i64 K, .int .i64 (-1), .int .u64 (ipa : Nat), .bool sto] 67) (fun _ => rfl)) (fun b hb e => by subst e; exact hb (.inr HNE.out.2.2.2.1))
    have ho := HR.out.2.1.putB (b := bf) (.cells #[.int .i64 2, .int .i64 K, .int .i64 (-1), .int .u64 (ipa : Nat), .bool sto] 67) (fun _ => .inr HNE.out.2.2.2.1)
    generalize putB x2 bf (.cells #[.int .i64 2, .int .i64 K, .int .i64 (-1), .int .u64 (ipa : Nat), .bool sto] 67) = W2 at *
    have HW2 := Lib.hid (And.intro hm ho)
    clear hm ho kf qf zf hset KF0
    refine wp_region_staged (S := TwoS 3 4 b8 (.cells #[Value.int .i64 0, .int .u64 0, .bool false, .bool false, .bool false, .bool false, .bool false, .bool false] 65) b9 (.cells #[Value.int .i64 2, .int .i64 K, .int .i64 (-1), .int .u64 (ipa : Nat), .bool sto] 67) W2.drew) 6 (by kernel_rfl) (by kernel_rfl) (by kernel_rfl) (by decide) (two_start _) ?_
    apply walkedS_cons
    · intro l9 wS hz hn hS
      have hS9 := two_other 0 (by decide) (by decide) hS
      clear hS
      go_wp2
      exact ⟨rfl, rfl, hS9⟩
    · rfl
    (try simp only [Act.put, List.setIfInBounds_toArray, List.set_cons_succ, List.set_cons_zero])
    apply walkedS_cons
    · intro l9 wS hz hn hS
      have hS9 := two_other 1 (by decide) (by decide) hS
      have c9 := two_cell hS HNE.out.2.1 HNE.out.2.2.1 KF
      clear hS
      go_wp2
      exact ⟨rfl, rfl, hS9⟩
    · rfl
    (try simp only [Act.put, List.setIfInBounds_toArray, List.set_cons_succ, List.set_cons_zero])
    apply walkedS_cons
    · intro l9 wS hz hn hS
      have hS9 := two_other 2 (by decide) (by decide) hS
      have c9 := two_cell hS (show wb ≠ b8 by have := HWB.out.1; omega) (show wb ≠ b9 by have := HWB.out.1; omega) KW
      clear hS
      go_wp2
      exact ⟨rfl, rfl, hS9⟩
    · rfl
    (try simp only [Act.put, List.setIfInBounds_toArray, List.set_cons_succ, List.set_cons_zero])
    apply walkedS_cons
    · intro l9 wS hz hn hS
      have hb9 := two_first hn hS HNE.out.1 K8
      have hd9 := two_done1 hz (by decide) (by decide) hn HNE.out.1 hS
      refine wpList_store_whole rfl 65 _ _ rfl b8 [Value.int .i64 0, .int .u64 0, .bool false, .bool false, .bool false, .bool false, .bool false, .bool false] rfl rfl 65 _ hb9 (by kernel_rfl) rfl (by intro v hv; simp only [List.mem_cons, List.not_mem_nil, or_false] at hv; rcases hv with rfl | rfl | rfl | rfl | rfl | rfl | rfl | rfl <;> rfl) ?_
      exact ⟨rfl, rfl, hd9⟩
    · rfl
    (try simp only [Act.put, List.setIfInBounds_toArray, List.set_cons_succ, List.set_cons_zero])
    apply walkedS_cons
    · intro l9 wS hz hn hS
      have hb9 := two_second hn hS HNE.out.1 K9
      have hd9 := two_done2 hz (by decide) (by decide) hn hS
      refine wpList_store_whole rfl 67 _ _ rfl b9 [Value.int .i64 2, .int .i64 K, .int .i64 (-1), .int .u64 (ipa : Nat), .bool sto] rfl rfl 67 _ hb9 (by kernel_rfl) rfl (by intro v hv; simp only [List.mem_cons, List.not_mem_nil, or_false] at hv; rcases hv with rfl | rfl | rfl | rfl | rfl <;> rfl) ?_
      exact ⟨rfl, rfl, hd9⟩
    · rfl
    (try simp only [Act.put, List.setIfInBounds_toArray, List.set_cons_succ, List.set_cons_zero])
    apply walkedS_cons
    · intro l9 wS hz hn hS
      have hS9 := two_other 5 (by decide) (by decide) hS
      clear hS
      go_wp2
      exact ⟨rfl, rfl, hS9⟩
    · rfl
    (try simp only [Act.put, List.setIfInBounds_toArray, List.set_cons_succ, List.set_cons_zero])
    apply walkedS_nil
    intro l9 wS hz hall hS
    obtain rfl := two_all (hall 3 (by decide)) (hall 4 (by decide)) hS
    clear hS hall hz l9
    show wpList _ _ _ [] _ _
    go_wp2
    have r8 : (putB (putB W2.drew b8 (.cells #[Value.int .i64 0, .int .u64 0, .bool false, .bool false, .bool false, .bool false, .bool false, .bool false] 65)) b9 (.cells #[Value.int .i64 2, .int .i64 K, .int .i64 (-1), .int .u64 (ipa : Nat), .bool sto] 67)).heap[b8]? = some (.cells #[Value.int .i64 0, .int .u64 0, .bool false, .bool false, .bool false, .bool false, .bool false, .bool false] 65) := by rw [putB_other _ (Ne.symm HNE.out.1)]; exact putB_same _ (lt_of_block (show W2.drew.heap[b8]? = _ from K8))
    have r9 : (putB (putB W2.drew b8 (.cells #[Value.int .i64 0, .int .u64 0, .bool false, .bool false, .bool false, .bool false, .bool false, .bool false] 65)) b9 (.cells #[Value.int .i64 2, .int .i64 K, .int .i64 (-1), .int .u64 (ipa : Nat), .bool sto] 67)).heap[b9]? = some (.cells #[Value.int .i64 2, .int .i64 K, .int .i64 (-1), .int .u64 (ipa : Nat), .bool sto] 67) := putB_same _ (by rw [putB_size]; exact lt_of_block (show W2.drew.heap[b9]? = _ from K9))
    obtain ⟨k8, -, -⟩ := of_block r8
    obtain ⟨k9, -, -⟩ := of_block r9
    refine bodyPost_ret (by simp [results, Try.results33, go_sem, k8, k9]; try rfl) rfl ?_
    exact retSec_end HB.out.1 HW2.out.1 (Nat.le_refl _) HW2.out.2 HNE.out.2.2.2.2.1 HNE.out.2.2.2.2.2 HQ6.out
  subst hK0
  have hk3 : decide ((0 : Int) < 0) = false := by decide
  have hn1 : 1 ≤ n := by
    have := HOK.out.1.some_ (show (0 : Int) ≠ -1 by decide)
    rw [← HN.out]; exact this
  obtain ⟨s, hs0, hs1, hs⟩ := last_mem (l := L) (by rw [HN.out]; exact hn1)
  rw [HN.out] at hs
  obtain ⟨f1, f2, f3, f4⟩ := way_at HOK.out.1.way hs
  have hl4 : n ≤ 4 := by rw [← HN.out]; exact HOK.out.1.len
  obtain ⟨g1, rfl⟩ := HR.out.2.2.2 (by rw [HN.out]; omega)
  have hcs : ∀ (c : Nat) (u : Value), s.cells[c]? = some u → x2.cell? ⟨g1, (n - 1) * 9 + c, none⟩ = some u := fun c u hu => own_cell HR.out.2.2.1 rfl _ (stCells_get L _ s c u hs hu)
  have HQ7 : Hid (q = (if allowsB s.d.r s.d.w s.d.x access = false then (O0, ⟨2, 2, -1, ipa, sto⟩, n) else (⟨outN ipa s.lv s.d.k s.d.a / 4096, ipa / 4096, true, true, true, s.d.r, s.d.w, s.d.x⟩, F0, n))) := Lib.hid (by rw [HQD.out, ← HN.out, ← hs1]; rfl)
  obtain ⟨lv, sat, sraw, ⟨dk, da, dr, dw, dx, dS⟩⟩ := s
  have hcs2 : ∀ (c : Nat) (u : Value), [Value.int .i64 (lv : Nat), .int .u64 (sat : Nat), .int .u64 (sraw : Nat), .int .i64 dk, .int .u64 (da : Nat), .bool dr, .bool dw, .bool dx, .int .i64 dS][c]? = some u → x2.cell? ⟨g1, (n - 1) * 9 + c, none⟩ = some u := hcs
  have hda : da < 18446744073709551616 := f4
  have HQ8 : Hid (q = (if allowsB dr dw dx access = false then (O0, ⟨2, 2, -1, ipa, sto⟩, n) else (⟨outN ipa lv dk da / 4096, ipa / 4096, true, true, true, dr, dw, dx⟩, F0, n))) := Lib.hid HQ7.out
  have HCS := Lib.hid hcs2
  have HDA := Lib.hid hda
  have hn1' : ((n - 1 : Nat) : Int) = (n : Int) - 1 := by omega
  have n4 : (n : Int) ≤ 4 := by omega
  have hge : (0 : Int) ≤ (n : Int) - 1 := by omega
  have hlt : (n : Int) - 1 < n := by omega
  have htn : ((n : Int) - 1).toNat = n - 1 := by omega
  have HN1 := Lib.hid hn1'
  clear hn1 hs0 hs1 hs f1 f2 f3 f4 hl4 hcs HQ7 HQD hcs2 hda hK K8 K9 KW KF
  go_upto_region 15 with (refine wpList_load_at rfl 52 _ rfl g1 ((n - 1) * 9) rfl [Value.int .i64 (lv : Nat), .int .u64 (sat : Nat), .int .u64 (sraw : Nat), .int .i64 dk, .int .u64 (da : Nat), .bool dr, .bool dw, .bool dx, .int .i64 dS] _ HCS.out Try.underlying52 rfl (by kernel_rfl) ?_)
  have hO3 := old_alloc (old_refl x2) (.cells #[Value.int .i64 (lv : Nat), .int .u64 (sat : Nat), .int .u64 (sraw : Nat), .int .i64 dk, .int .u64 (da : Nat), .bool dr, .bool dw, .bool dx, .int .i64 dS] 52)
  have hxb := new_block x2 (.cells #[Value.int .i64 (lv : Nat), .int .u64 (sat : Nat), .int .u64 (sraw : Nat), .int .i64 dk, .int .u64 (da : Nat), .bool dr, .bool dw, .bool dx, .int .i64 dS] 52)
  generalize x2.alloc (.cells #[Value.int .i64 (lv : Nat), .int .u64 (sat : Nat), .int .u64 (sraw : Nat), .int .i64 dk, .int .u64 (da : Nat), .bool dr, .bool dw, .bool dx, .int .i64 dS] 52) = X3 at *
  obtain ⟨bl, hbl⟩ : ∃ bl, bl = x2.heap.size := ⟨_, rfl⟩
  rw [← hbl] at hxb ⊢
  have hbl2 : mb < bl ∧ b8 < bl ∧ b9 < bl ∧ bf < bl ∧ wb < bl := by have := HSZ.out; have := HWB.out; omega
  have K8 := keep_old hO3 HKK.out.1
  have K9 := keep_old hO3 HKK.out.2.1
  have KW := keep_old hO3 HKK.out.2.2.1
  have KF := keep_old hO3 HKK.out.2.2.2
  have hm := memW_old HR.out.1 hO3
  have ho := HR.out.2.1.trans ((Only.of_below hO3).mono (G := fun b => ¬ (X b ∨ mb ≤ b) ∨ mb ≤ b) fun b _ f => f.elim)
  have hall := allows_calls dr dw dx access
  obtain ⟨km, qm, zm⟩ := of_block hxb
  have HX3 := Lib.hid (And.intro hm (And.intro ho (And.intro hbl2 hxb)))
  have HK3 := Lib.hid (And.intro K8 (And.intro K9 (And.intro KW KF)))
  have HALL := Lib.hid hall
  clear hO3 hbl hbl2 K8 K9 KW KF hm ho hall HCS hn1' hge hlt htn HKK HSZ hxb
  cases hal : allowsB dr dw dx access with
  | false =>
    have HQ6 : Hid (q = (O0, ⟨2, 2, -1, ipa, sto⟩, n)) := Lib.hid (by rw [HQ8.out, if_pos hal])
    have hc := HALL.out X3
    rw [hal] at hc
    clear hal
    go_wp2_with fail
    (with_reducible refine hc.mono ?_)
    rintro e x4 ⟨rfl, hO4⟩
    have K8 := keep_old hO4 HK3.out.1
    have K9 := keep_old hO4 HK3.out.2.1
    have KW := keep_old hO4 HK3.out.2.2.1
    have KF := keep_old hO4 HK3.out.2.2.2
    have hset : x4.setCell ⟨bf, 1, none⟩ (.int .i64 2) = putB x4 bf (.cells #[.int .i64 2, .int .i64 2, .int .i64 (-1), .int .u64 (ipa : Nat), .bool sto] 67) := by rw [set_of KF]; rfl
    obtain ⟨kf, qf, zf⟩ := of_block KF
    have HO4 := Lib.hid hO4
    have HK4 := Lib.hid (And.intro K8 (And.intro K9 (And.intro KW KF)))
    clear hO4 K8 K9 KW KF hc km qm zm
    go_upto_region 17 with (fail)
    obtain ⟨K8, K9, KW, KF0⟩ := HK4.out
    have KF := putB_same (.cells #[.int .i64 2, .int .i64 2, .int .i64 (-1), .int .u64 (ipa : Nat), .bool sto] 67) (lt_of_block KF0)
    have K8 := (putB_other (.cells #[.int .i64 2, .int .i64 2, .int .i64 (-1), .int .u64 (ipa : Nat), .bool sto] 67) HNE.out.2.1).trans K8
    have K9 := (putB_other (.cells #[.int .i64 2, .int .i64 2, .int .i64 (-1), .int .u64 (ipa : Nat), .bool sto] 67) HNE.out.2.2.1).trans K9
    have KW := (putB_other (.cells #[.int .i64 2, .int .i64 2, .int .i64 (-1), .int .u64 (ipa : Nat), .bool sto] 67) (show bf ≠ wb by have := HWB.out.1; omega)).trans KW
    have hm := memW_only (memW_old HX3.out.1 HO4.out) ((Only.refl (fun b => b = bf) x4).putB (.cells #[.int .i64 2, .int .i64 2, .int .i64 (-1), .int .u64 (ipa : Nat), .bool sto] 67) (fun _ => rfl)) (fun b hb e => by subst e; exact hb (.inr HNE.out.2.2.2.1))
    have ho := (HX3.out.2.1.trans ((Only.of_below HO4.out).mono (G := fun b => ¬ (X b ∨ mb ≤ b) ∨ mb ≤ b) fun b _ f => f.elim)).putB (b := bf) (.cells #[.int .i64 2, .int .i64 2, .int .i64 (-1), .int .u64 (ipa : Nat), .bool sto] 67) (fun _ => .inr HNE.out.2.2.2.1)
    generalize putB x4 bf (.cells #[.int .i64 2, .int .i64 2, .int .i64 (-1), .int .u64 (ipa : Nat), .bool sto] 67) = W2 at *
    have HW2 := Lib.hid (And.intro hm ho)
    clear hm ho kf qf zf hset KF0
    refine wp_region_staged (S := TwoS 3 4 b8 (.cells #[Value.int .i64 0, .int .u64 0, .bool false, .bool false, .bool false, .bool false, .bool false, .bool false] 65) b9 (.cells #[Value.int .i64 2, .int .i64 2, .int .i64 (-1), .int .u64 (ipa : Nat), .bool sto] 67) W2.drew) 6 (by kernel_rfl) (by kernel_rfl) (by kernel_rfl) (by decide) (two_start _) ?_
    apply walkedS_cons
    · intro l9 wS hz hn hS
      have hS9 := two_other 0 (by decide) (by decide) hS
      clear hS
      go_wp2
      exact ⟨rfl, rfl, hS9⟩
    · rfl
    (try simp only [Act.put, List.setIfInBounds_toArray, List.set_cons_succ, List.set_cons_zero])
    apply walkedS_cons
    · intro l9 wS hz hn hS
      have hS9 := two_other 1 (by decide) (by decide) hS
      have c9 := two_cell hS HNE.out.2.1 HNE.out.2.2.1 KF
      clear hS
      go_wp2
      exact ⟨rfl, rfl, hS9⟩
    · rfl
    (try simp only [Act.put, List.setIfInBounds_toArray, List.set_cons_succ, List.set_cons_zero])
    apply walkedS_cons
    · intro l9 wS hz hn hS
      have hS9 := two_other 2 (by decide) (by decide) hS
      have c9 := two_cell hS (show wb ≠ b8 by have := HWB.out.1; omega) (show wb ≠ b9 by have := HWB.out.1; omega) KW
      clear hS
      go_wp2
      exact ⟨rfl, rfl, hS9⟩
    · rfl
    (try simp only [Act.put, List.setIfInBounds_toArray, List.set_cons_succ, List.set_cons_zero])
    apply walkedS_cons
    · intro l9 wS hz hn hS
      have hb9 := two_first hn hS HNE.out.1 K8
      have hd9 := two_done1 hz (by decide) (by decide) hn HNE.out.1 hS
      refine wpList_store_whole rfl 65 _ _ rfl b8 [Value.int .i64 0, .int .u64 0, .bool false, .bool false, .bool false, .bool false, .bool false, .bool false] rfl rfl 65 _ hb9 (by kernel_rfl) rfl (by intro v hv; simp only [List.mem_cons, List.not_mem_nil, or_false] at hv; rcases hv with rfl | rfl | rfl | rfl | rfl | rfl | rfl | rfl <;> rfl) ?_
      exact ⟨rfl, rfl, hd9⟩
    · rfl
    (try simp only [Act.put, List.setIfInBounds_toArray, List.set_cons_succ, List.set_cons_zero])
    apply walkedS_cons
    · intro l9 wS hz hn hS
      have hb9 := two_second hn hS HNE.out.1 K9
      have hd9 := two_done2 hz (by decide) (by decide) hn hS
      refine wpList_store_whole rfl 67 _ _ rfl b9 [Value.int .i64 2, .int .i64 2, .int .i64 (-1), .int .u64 (ipa : Nat), .bool sto] rfl rfl 67 _ hb9 (by kernel_rfl) rfl (by intro v hv; simp only [List.mem_cons, List.not_mem_nil, or_false] at hv; rcases hv with rfl | rfl | rfl | rfl | rfl <;> rfl) ?_
      exact ⟨rfl, rfl, hd9⟩
    · rfl
    (try simp only [Act.put, List.setIfInBounds_toArray, List.set_cons_succ, List.set_cons_zero])
    apply walkedS_cons
    · intro l9 wS hz hn hS
      have hS9 := two_other 5 (by decide) (by decide) hS
      clear hS
      go_wp2
      exact ⟨rfl, rfl, hS9⟩
    · rfl
    (try simp only [Act.put, List.setIfInBounds_toArray, List.set_cons_succ, List.set_cons_zero])
    apply walkedS_nil
    intro l9 wS hz hall hS
    obtain rfl := two_all (hall 3 (by decide)) (hall 4 (by decide)) hS
    clear hS hall hz l9
    show wpList _ _ _ [] _ _
    go_wp2
    have r8 : (putB (putB W2.drew b8 (.cells #[Value.int .i64 0, .int .u64 0, .bool false, .bool false, .bool false, .bool false, .bool false, .bool false] 65)) b9 (.cells #[Value.int .i64 2, .int .i64 2, .int .i64 (-1), .int .u64 (ipa : Nat), .bool sto] 67)).heap[b8]? = some (.cells #[Value.int .i64 0, .int .u64 0, .bool false, .bool false, .bool false, .bool false, .bool false, .bool false] 65) := by rw [putB_other _ (Ne.symm HNE.out.1)]; exact putB_same _ (lt_of_block (show W2.drew.heap[b8]? = _ from K8))
    have r9 : (putB (putB W2.drew b8 (.cells #[Value.int .i64 0, .int .u64 0, .bool false, .bool false, .bool false, .bool false, .bool false, .bool false] 65)) b9 (.cells #[Value.int .i64 2, .int .i64 2, .int .i64 (-1), .int .u64 (ipa : Nat), .bool sto] 67)).heap[b9]? = some (.cells #[Value.int .i64 2, .int .i64 2, .int .i64 (-1), .int .u64 (ipa : Nat), .bool sto] 67) := putB_same _ (by rw [putB_size]; exact lt_of_block (show W2.drew.heap[b9]? = _ from K9))
    obtain ⟨k8, -, -⟩ := of_block r8
    obtain ⟨k9, -, -⟩ := of_block r9
    refine bodyPost_ret (by simp [results, Try.results33, go_sem, k8, k9]; try rfl) rfl ?_
    exact retSec_end HB.out.1 HW2.out.1 (Nat.le_refl _) HW2.out.2 HNE.out.2.2.2.2.1 HNE.out.2.2.2.2.2 HQ6.out
  | true =>
    have hc := HALL.out X3
    rw [hal] at hc
    have HQ6 : Hid (q = (⟨outN ipa lv dk da / 4096, ipa / 4096, true, true, true, dr, dw, dx⟩, F0, n)) := Lib.hid (by rw [HQ8.out, if_neg (by rw [hal]; simp)])
    have hout := fun x => out_calls ipa HU.out.2.2 lv sat sraw dk da HDA.out dr dw dx dS x
    have hol : outN ipa lv dk da < 18446744073709551616 := by
      unfold outN; split
      · exact Nat.mod_lt _ (by decide)
      · decide
    obtain ⟨ou, hou⟩ : ∃ ou, outN ipa lv dk da = ou := ⟨_, rfl⟩
    rw [hou] at hout hol
    have HOU := Lib.hid hou
    have HOUT := Lib.hid hout
    clear hal hout hou HALL
    go_wp2_with fail
    (with_reducible refine hc.mono ?_)
    rintro e x4 ⟨rfl, hO4⟩
    have hxb := keep_old hO4 HX3.out.2.2.2
    obtain ⟨km, qm, zm⟩ := of_block hxb
    have HO4 := Lib.hid (And.intro hO4 hxb)
    have hc := HOUT.out x4
    have hd1 : ((ou / 4096 : Nat) : Int) = (ou : Int) / 4096 := by omega
    have hd2 : (ou : Int) / 4096 < 9223372036854775808 := by omega
    have hd3 : (0 : Int) ≤ (ou : Int) / 4096 := by omega
    clear hO4 hxb hol
    go_wp2_with fail
    (with_reducible refine hc.mono ?_)
    rintro e x5 ⟨rfl, hO5⟩
    have hO45 := old_then HO4.out.1 hO5
    have KL := keep_old hO5 HO4.out.2
    have K8 := keep_old hO45 HK3.out.1
    have K9 := keep_old hO45 HK3.out.2.1
    have KW := keep_old hO45 HK3.out.2.2.1
    have hm := memW_old HX3.out.1 hO45
    have ho := HX3.out.2.1.trans ((Only.of_below hO45).mono (G := fun b => ¬ (X b ∨ mb ≤ b) ∨ mb ≤ b) fun b _ f => f.elim)
    have HW3 := Lib.hid (And.intro hm ho)
    have HK5 := Lib.hid (And.intro KL (And.intro K8 (And.intro K9 KW)))
    clear hO5 hO45 KL K8 K9 KW hm ho hc km qm zm
    go_upto_region 19 with (fail)
    rw [show (ou : Int) / 4096 = ((ou / 4096 : Nat) : Int) by omega]
    obtain ⟨OF, hOF⟩ : ∃ OF, ou / 4096 = OF := ⟨_, rfl⟩
    obtain ⟨OI, hOI⟩ : ∃ OI, ipa / 4096 = OI := ⟨_, rfl⟩
    rw [hOF]
    have hoi : (ipa : Int) / 4096 = (OI : Int) := by omega
    have HQ9 : Hid (q = (⟨OF, OI, true, true, true, dr, dw, dx⟩, F0, n)) := Lib.hid (by rw [HQ6.out, HOU.out, hOF, hOI])
    clear hOF hOI hd1 hd2 hd3
    obtain ⟨KL, K8, K9, KW⟩ := HK5.out
    refine wp_region_staged (S := TwoS 10 11 b8 (.cells #[Value.int .i64 (OF : Nat), .int .u64 (OI : Nat), .bool true, .bool true, .bool true, .bool dr, .bool dw, .bool dx] 65) b9 (.cells #[Value.int .i64 0, .int .i64 0, .int .i64 0, .int .u64 0, .bool false] 67) x5.drew) 13 (by kernel_rfl) (by kernel_rfl) (by kernel_rfl) (by decide) (two_start _) ?_
    apply walkedS_cons
    · intro l9 wS hz hn hS
      have hS9 := two_other 0 (by decide) (by decide) hS
      clear hS
      go_wp2
      exact ⟨rfl, rfl, hS9⟩
    · rfl
    (try simp only [Act.put, List.setIfInBounds_toArray, List.set_cons_succ, List.set_cons_zero])
    apply walkedS_cons
    · intro l9 wS hz hn hS
      have hS9 := two_other 1 (by decide) (by decide) hS
      clear hS
      go_wp2
      exact ⟨rfl, rfl, hS9⟩
    · rfl
    (try simp only [Act.put, List.setIfInBounds_toArray, List.set_cons_succ, List.set_cons_zero])
    apply walkedS_cons
    · intro l9 wS hz hn hS
      have hS9 := two_other 2 (by decide) (by decide) hS
      clear hS
      go_wp2
      exact ⟨rfl, rfl, hS9⟩
    · rfl
    (try simp only [Act.put, List.setIfInBounds_toArray, List.set_cons_succ, List.set_cons_zero])
    apply walkedS_cons
    · intro l9 wS hz hn hS
      have hS9 := two_other 3 (by decide) (by decide) hS
      clear hS
      go_wp2
      exact ⟨rfl, rfl, hS9⟩
    · rfl
    (try simp only [Act.put, List.setIfInBounds_toArray, List.set_cons_succ, List.set_cons_zero])
    apply walkedS_cons
    · intro l9 wS hz hn hS
      have hS9 := two_other 4 (by decide) (by decide) hS
      clear hS
      go_wp2
      exact ⟨rfl, rfl, hS9⟩
    · rfl
    (try simp only [Act.put, List.setIfInBounds_toArray, List.set_cons_succ, List.set_cons_zero])
    apply walkedS_cons
    · intro l9 wS hz hn hS
      have hS9 := two_other 5 (by decide) (by decide) hS
      clear hS
      go_wp2
      exact ⟨rfl, rfl, hS9⟩
    · rfl
    (try simp only [Act.put, List.setIfInBounds_toArray, List.set_cons_succ, List.set_cons_zero])
    apply walkedS_cons
    · intro l9 wS hz hn hS
      have hS9 := two_other 6 (by decide) (by decide) hS
      have c9 := two_cell hS (show bl ≠ b8 by have := HX3.out.2.2.1; omega) (show bl ≠ b9 by have := HX3.out.2.2.1; omega) KL
      clear hS
      go_wp2
      exact ⟨rfl, rfl, hS9⟩
    · rfl
    (try simp only [Act.put, List.setIfInBounds_toArray, List.set_cons_succ, List.set_cons_zero])
    apply walkedS_cons
    · intro l9 wS hz hn hS
      have hS9 := two_other 7 (by decide) (by decide) hS
      clear hS
      go_wp2
      exact ⟨rfl, rfl, hS9⟩
    · rfl
    (try simp only [Act.put, List.setIfInBounds_toArray, List.set_cons_succ, List.set_cons_zero])
    apply walkedS_cons
    · intro l9 wS hz hn hS
      have hS9 := two_other 8 (by decide) (by decide) hS
      clear hS
      go_wp2
      exact ⟨rfl, rfl, hS9⟩
    · rfl
    (try simp only [Act.put, List.setIfInBounds_toArray, List.set_cons_succ, List.set_cons_zero])
    apply walkedS_cons
    · intro l9 wS hz hn hS
      have hS9 := two_other 9 (by decide) (by decide) hS
      have c9 := two_cell hS (show wb ≠ b8 by have := HWB.out.1; omega) (show wb ≠ b9 by have := HWB.out.1; omega) KW
      clear hS
      go_wp2
      exact ⟨rfl, rfl, hS9⟩
    · rfl
    (try simp only [Act.put, List.setIfInBounds_toArray, List.set_cons_succ, List.set_cons_zero])
    apply walkedS_cons
    · intro l9 wS hz hn hS
      have hb9 := two_first hn hS HNE.out.1 K8
      have hd9 := two_done1 hz (by decide) (by decide) hn HNE.out.1 hS
      refine wpList_store_whole rfl 65 _ _ rfl b8 [Value.int .i64 (OF : Nat), .int .u64 (OI : Nat), .bool true, .bool true, .bool true, .bool dr, .bool dw, .bool dx] rfl rfl 65 _ hb9 (by kernel_rfl) rfl (by intro v hv; simp only [List.mem_cons, List.not_mem_nil, or_false] at hv; rcases hv with rfl | rfl | rfl | rfl | rfl | rfl | rfl | rfl <;> rfl) ?_
      exact ⟨rfl, rfl, hd9⟩
    · rfl
    (try simp only [Act.put, List.setIfInBounds_toArray, List.set_cons_succ, List.set_cons_zero])
    apply walkedS_cons
    · intro l9 wS hz hn hS
      have hb9 := two_second hn hS HNE.out.1 K9
      have hd9 := two_done2 hz (by decide) (by decide) hn hS
      refine wpList_store_whole rfl 67 _ _ rfl b9 [Value.int .i64 0, .int .i64 0, .int .i64 0, .int .u64 0, .bool false] rfl rfl 67 _ hb9 (by kernel_rfl) rfl (by intro v hv; simp only [List.mem_cons, List.not_mem_nil, or_false] at hv; rcases hv with rfl | rfl | rfl | rfl | rfl <;> rfl) ?_
      exact ⟨rfl, rfl, hd9⟩
    · rfl
    (try simp only [Act.put, List.setIfInBounds_toArray, List.set_cons_succ, List.set_cons_zero])
    apply walkedS_cons
    · intro l9 wS hz hn hS
      have hS9 := two_other 12 (by decide) (by decide) hS
      clear hS
      go_wp2
      exact ⟨rfl, rfl, hS9⟩
    · rfl
    (try simp only [Act.put, List.setIfInBounds_toArray, List.set_cons_succ, List.set_cons_zero])
    apply walkedS_nil
    intro l9 wS hz hall hS
    obtain rfl := two_all (hall 10 (by decide)) (hall 11 (by decide)) hS
    clear hS hall hz l9
    show wpList _ _ _ [] _ _
    go_wp2
    have r8 : (putB (putB x5.drew b8 (.cells #[Value.int .i64 (OF : Nat), .int .u64 (OI : Nat), .bool true, .bool true, .bool true, .bool dr, .bool dw, .bool dx] 65)) b9 (.cells #[Value.int .i64 0, .int .i64 0, .int .i64 0, .int .u64 0, .bool false] 67)).heap[b8]? = some (.cells #[Value.int .i64 (OF : Nat), .int .u64 (OI : Nat), .bool true, .bool true, .bool true, .bool dr, .bool dw, .bool dx] 65) := by rw [putB_other _ (Ne.symm HNE.out.1)]; exact putB_same _ (lt_of_block (show x5.drew.heap[b8]? = _ from K8))
    have r9 : (putB (putB x5.drew b8 (.cells #[Value.int .i64 (OF : Nat), .int .u64 (OI : Nat), .bool true, .bool true, .bool true, .bool dr, .bool dw, .bool dx] 65)) b9 (.cells #[Value.int .i64 0, .int .i64 0, .int .i64 0, .int .u64 0, .bool false] 67)).heap[b9]? = some (.cells #[Value.int .i64 0, .int .i64 0, .int .i64 0, .int .u64 0, .bool false] 67) := putB_same _ (by rw [putB_size]; exact lt_of_block (show x5.drew.heap[b9]? = _ from K9))
    obtain ⟨k8, -, -⟩ := of_block r8
    obtain ⟨k9, -, -⟩ := of_block r9
    refine bodyPost_ret (by simp [results, Try.results33, go_sem, k8, k9]; try rfl) rfl ?_
    exact retSec_end HB.out.1 HW3.out.1 (Nat.le_refl _) HW3.out.2 HNE.out.2.2.2.2.1 HNE.out.2.2.2.2.2 HQ9.out
end Go.Proofs.Ytlbehhbicmmdoaa
