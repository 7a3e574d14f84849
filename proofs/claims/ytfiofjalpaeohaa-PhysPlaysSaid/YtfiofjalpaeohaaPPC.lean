/- Texts on the way to the statement PhysPlays, several in one file: each part says what it is. -/
import Derived.Test.YtfiofjalpaeohaaPPA
import Derived.Test.YtfiofjalpaeohaaPPB
/- As Stage; and each operation is told that its predecessors have come. No function of the program stands here. -/
namespace Go.Proofs.Ytfiofjalpaeohaa
set_option linter.unusedVariables false
set_option linter.unusedSimpArgs false
open Go.RowKit
section
variable {P : Program} {ops : Array Oper} {S : Array Bool → World → Prop} {Q : Exit → Act → World → Prop}
/-- Operation number j (of n) comes to the frame a', wherever it comes up. -/
def GivesM (P : Program) (ops : Array Oper) (S : Array Bool → World → Prop) (n j : Nat) (o : Oper) (a a' : Act) : Prop :=
  ∀ (l : Array Bool) (w : World), l.size = n → l.getD j false = false → AllMet ops l j → S l w → wpList P ops (Fin (S (l.setIfInBounds j true)) a') [o] a w
/-- The operations one by one, in the order of the text. -/
def WalkedM (P : Program) (ops : Array Oper) (S : Array Bool → World → Prop) (n : Nat) (Q : Act → Prop) : List Oper → Nat → Act → Prop
  | [], _, a => Q a
  | o :: r, j, a => ∃ a', GivesM P ops S n j o a a' ∧ a'.defers = a.defers ∧ WalkedM P ops S n Q r (j + 1) a'
/-- What an operation gives at one frame it gives at every frame that agrees on what it looks at. -/
theorem gives_valsM {n j : Nat} {o : Oper} {a a' : Act} (h : GivesM P ops S n j o a a') (hd : a'.defers = a.defers) (hs : ∀ cs c, o.op ≠ .select cs c) {l0 : Array Bool} {w0 : World} (z0 : l0.size = n) (n0 : l0.getD j false = false) (m0 : AllMet ops l0 j) (h0 : S l0 w0) :
    ∃ v, a' = a.put o.dst v ∧ (∃ w1, S (l0.setIfInBounds j true) w1) ∧ ∀ (l : Array Bool) (b : Act) (w : World) (K : Act → World → Prop) (Q : Exit → Act → World → Prop), Agree ops o a b → l.size = n → l.getD j false = false → AllMet ops l j → S l w → (∀ w', S (l.setIfInBounds j true) w' → K (b.put o.dst v) w') →
      (if Region.wanted o (yielded ops b.tmps) then o.wp P b w K Q ∨ (o.asks P b w ∧ LetsOut Q) else K (b.put o.dst undef) w) := by
  by_cases hw : Region.wanted o (yielded ops a.tmps) = true
  · -- what it comes to in a world of S
    have key : ∀ l w, l.size = n → l.getD j false = false → AllMet ops l j → S l w → o.wp P a w (fun a'' w' => a'' = a' ∧ S (l.setIfInBounds j true) w') (fun _ _ _ => False) := by
      intro l w hz hn hm hS
      have h1 := h l w hz hn hm hS
      unfold wpList at h1
      rw [if_pos hw] at h1
      rcases h1 with h1 | ⟨_, a1, w1, h1, _⟩
      · unfold Oper.wp at h1 ⊢
        generalize (execOp a.eval o).run P w = r at h1 ⊢
        cases r with
        | ok n w' =>
          cases n with
          | value v => exact h1.2
          | skip => exact h1.2
          | defer d => exact h1.2
          | enter f args =>
            simp only [Oper.upon] at h1 ⊢
            refine Calls.mono h1 fun e w'' he => ?_
            cases e with
            | returned v => exact he.2
            | panicked c => exact absurd he.1 (by simp)
            | outgrown => obtain ⟨_, _, h2, _⟩ := he; exact absurd h2 (by simp)
          | row row args =>
            simp only [Oper.upon] at h1 ⊢
            exact Rows.mono h1 fun v w'' he => he.2
          | _ => exact (h1 : False).elim
        | halt x w' =>
          cases x <;> simp only [Oper.upon] at h1 ⊢ <;> first | exact h1 | exact absurd h1.1 (by simp)
      · exact absurd h1 (by simp)
    have nodefer : ∀ d, ({ a with defers := d :: a.defers } : Act).put o.dst undef ≠ a' := by
      intro d e
      have h1 := congrArg Act.defers e
      rw [hd] at h1
      have h2 : (({ a with defers := d :: a.defers } : Act).put o.dst undef).defers = d :: a.defers := by cases o.dst <;> rfl
      rw [h2] at h1
      have := congrArg List.length h1
      simp at this
    -- the value
    have hv : ∃ v, a' = a.put o.dst v ∧ ∃ w1, S (l0.setIfInBounds j true) w1 := by
      have k0 := key l0 w0 z0 n0 m0 h0
      unfold Oper.wp at k0
      generalize (execOp a.eval o).run P w0 = r at k0
      cases r with
      | ok n w' =>
        cases n with
        | value v => exact ⟨v, k0.1.symm, _, k0.2⟩
        | skip => exact ⟨undef, k0.1.symm, _, k0.2⟩
        | defer d => exact absurd k0.1 (nodefer d)
        | enter f args =>
          simp only [Oper.upon] at k0
          obtain ⟨e, w'', fr, hr, _⟩ := k0 []
          cases e with
          | returned v => exact ⟨v, hr.1.symm, _, hr.2⟩
          | panicked c => exact hr.elim
          | outgrown => obtain ⟨_, _, h2⟩ := hr; exact h2.elim
        | row row args =>
          simp only [Oper.upon] at k0
          obtain ⟨v, w'', hr, _⟩ := k0 default []
          exact ⟨v, hr.1.symm, _, hr.2⟩
        | _ => exact (k0 : False).elim
      | halt x w' => cases x <;> simp only [Oper.upon] at k0
    obtain ⟨v, hv, hw1⟩ := hv
    refine ⟨v, hv, hw1, fun l b w K Q hab hz hn hm hS hK => ?_⟩
    rw [agree_wanted hab, if_pos hw]
    refine .inl ?_
    have k := key l w hz hn hm hS
    unfold Oper.wp at k ⊢
    rw [agree_eval hab hs]
    have same : ∀ u, a.put o.dst u = a' → b.put o.dst u = b.put o.dst v := fun u hu => put_same hab.1 (hu.trans hv)
    generalize (execOp a.eval o).run P w = r at k ⊢
    cases r with
    | ok n w' =>
      cases n with
      | value u => show K _ _; rw [same u k.1]; exact hK _ k.2
      | skip => show K _ _; rw [same undef k.1]; exact hK _ k.2
      | defer d => exact absurd k.1 (nodefer d)
      | enter f args =>
        simp only [Oper.upon] at k ⊢
        refine Calls.mono k fun e w'' he => ?_
        cases e with
        | returned u => show K _ _; rw [same u he.1]; exact hK _ he.2
        | panicked c => exact he.elim
        | outgrown => obtain ⟨_, _, h2⟩ := he; exact h2.elim
      | row row args =>
        simp only [Oper.upon] at k ⊢
        refine Rows.mono k fun u w'' he => ?_
        rw [same u he.1]; exact hK _ he.2
      | _ => exact (k : False).elim
    | halt x w' => cases x <;> simp only [Oper.upon] at k
  · have hw' : Region.wanted o (yielded ops a.tmps) = false := by simpa using hw
    refine ⟨undef, ?_, ?_, fun l b w K Q hab hz hn hm hS hK => ?_⟩
    · have h1 := h l0 w0 z0 n0 m0 h0
      unfold wpList at h1
      rw [if_neg hw] at h1
      exact h1.2.1.symm
    · have h1 := h l0 w0 z0 n0 m0 h0
      unfold wpList at h1
      rw [if_neg hw] at h1
      exact ⟨_, h1.2.2⟩
    · rw [agree_wanted hab, if_neg hw]
      have h1 := h l w hz hn hm hS
      unfold wpList at h1
      rw [if_neg hw] at h1
      exact hK w h1.2.2
theorem walkedM_chain {n : Nat} {Qf : Act → Prop} (hord : ∀ (j : Nat) (o : Oper) e, ops[j]? = some o → e ∈ o.after → Region.binds .any e = true → e.on < j) : ∀ {L : List Oper} (_ : ∀ (j : Nat) (o : Oper), L[j]? = some o → ∀ cs c, o.op ≠ .select cs c) (a : Act) (l0 : Array Bool) (w0 : World) {j0 : Nat}, l0.size = n → (∀ i, j0 ≤ i → l0.getD i false = false) → (∀ i, i < j0 → l0.getD i false = true) → j0 + L.length ≤ n → S l0 w0 →
    WalkedM P ops S n Qf L j0 a →
    ∃ A : Nat → Act, A 0 = a ∧ (∀ k o, L[k]? = some o → ∃ v, A (k + 1) = (A k).put o.dst v ∧ ∀ (l : Array Bool) (b : Act) (w : World) (K : Act → World → Prop) (Q : Exit → Act → World → Prop), Agree ops o (A k) b → l.size = n → l.getD (j0 + k) false = false → AllMet ops l (j0 + k) → S l w →
      (∀ w', S (l.setIfInBounds (j0 + k) true) w' → K (b.put o.dst v) w') → (if Region.wanted o (yielded ops b.tmps) then o.wp P b w K Q ∨ (o.asks P b w ∧ LetsOut Q) else K (b.put o.dst undef) w)) ∧ Qf (A L.length) := by
  intro L
  induction L with
  | nil => intro _ a l0 w0 j0 _ _ _ _ _ h; exact ⟨fun _ => a, rfl, fun k o hk => by simp at hk, h⟩
  | cons o L ih =>
    intro hs a l0 w0 j0 hz hn hdone hlen h0 h
    obtain ⟨a', hg, hd, hr⟩ := h
    obtain ⟨v, hv, ⟨w1, h1⟩, step⟩ := gives_valsM hg hd (hs 0 o rfl) hz (hn j0 (Nat.le_refl _)) (fun o' ho' e he hb => hdone e.on (hord j0 o' e ho' he hb)) h0
    obtain ⟨A, hA0, hA1, hA2⟩ := ih (fun j o' ho' => hs (j + 1) o' (by simpa using ho')) a' (l0.setIfInBounds j0 true) w1 (j0 := j0 + 1) (by rw [Array.size_setIfInBounds, hz]) (fun i hi => by
      rw [getD_set_ne false (by omega)]; exact hn i (by omega)) (fun i hi => by
      rw [List.length_cons] at hlen
      by_cases e : j0 = i
      · subst e; simp [hz]; omega
      · rw [getD_set_ne false e]; exact hdone i (by omega)) (by rw [List.length_cons] at hlen; omega) h1 hr
    refine ⟨fun k => match k with | 0 => a | k + 1 => A k, rfl, fun k o' hk => ?_, hA2⟩
    cases k with
    | zero =>
      simp at hk
      subst hk
      exact ⟨v, by show A 0 = a.put o.dst v; rw [hA0]; exact hv, step⟩
    | succ k =>
      have := hA1 k o' (by simpa using hk)
      rw [show j0 + 1 + k = j0 + (k + 1) by omega] at this
      exact this
/-- **A statement whose order is open, and which ends in operations that wait for all ahead of them (a store, an append): one walk, in the order of the text, is enough.** -/
theorem wp_region_met (m : Nat) {id : Nat} {a : Act} {w : World} (hm : P.follows .mixedOrders = true) (hok : seqOk ops = true) (ht : tailOk ops m = true) (hms : m ≤ ops.size) (hS : S (Array.replicate ops.size false) w.drew)
    (h : WalkedM P ops S ops.size (fun a' => ∀ l w', l.size = ops.size → (∀ k, k < m → l.getD k false = true) → S l w' → wpList P ops Q (ops.toList.drop m) a' w') (ops.toList.take m) 0 a) : (Code.region id ops true).wp P Q a w := by
  obtain ⟨A, hA0, hA, hQ⟩ := walkedM_chain (fun j o e ho he hb => (seqOk_spec hok ho).2.1 e he hb) (fun j o ho => (seqOk_spec (j := j) hok (by rw [List.getElem?_take] at ho; split at ho; (· simpa using ho); (· cases ho))).1) _ _ _ (by simp) (fun i _ => by simp [Array.getElem?_replicate]; split <;> rfl) (fun i hi => absurd hi (Nat.not_lt_zero _)) (by simp [Nat.min_eq_left hms]; omega) hS h
  have hA' : ∀ k o, k < m → ops[k]? = some o → ∃ v, A (k + 1) = (A k).put o.dst v ∧ ∀ (l : Array Bool) (b : Act) (w : World) (K : Act → World → Prop) (Q : Exit → Act → World → Prop), Agree ops o (A k) b → l.size = ops.size → l.getD k false = false → AllMet ops l k → S l w →
      (∀ w', S (l.setIfInBounds k true) w' → K (b.put o.dst v) w') → (if Region.wanted o (yielded ops b.tmps) then o.wp P b w K Q ∨ (o.asks P b w ∧ LetsOut Q) else K (b.put o.dst undef) w) := fun k o hk ho => by
    simpa using hA k o (by rw [List.getElem?_take, if_pos hk]; simpa using ho)
  have hlen : (ops.toList.take m).length = m := by simp [Nat.min_eq_left hms]
  rw [hlen] at hQ
  have asz : ∀ k, k ≤ m → (A k).tmps.size = a.tmps.size ∧ (A k).defers = a.defers := by
    intro k
    induction k with
    | zero => intro _; rw [hA0]; exact ⟨rfl, rfl⟩
    | succ k ih =>
      intro hk
      obtain ⟨v, hv, _⟩ := hA' k _ (by omega) (Array.getElem?_eq_getElem (show k < ops.size by omega))
      obtain ⟨i1, i2⟩ := ih (by omega)
      rw [hv, put_size, put_defs]; exact ⟨i1, i2⟩
  have far : ∀ k t n, k ≤ n → n ≤ m → (∀ i o, k ≤ i → i < n → ops[i]? = some o → o.dst ≠ some t) → (A n).tmps[t]? = (A k).tmps[t]? := by
    intro k t n
    induction n with
    | zero => intro h1 _ _; rw [show k = 0 by omega]
    | succ n ih =>
      intro h1 h2 hno
      by_cases hkm : k = n + 1
      · rw [hkm]
      · obtain ⟨v, hv, _⟩ := hA' n _ (by omega) (Array.getElem?_eq_getElem (show n < ops.size by omega))
        rw [hv, put_ne (hno n _ (by omega) (by omega) (Array.getElem?_eq_getElem (show n < ops.size by omega)))]
        exact ih (by omega) (by omega) (fun i o hi hi' ho => hno i o hi (by omega) ho)
  have unlike : ∀ (i j : Nat) (oi oj : Oper) (t : Tmp), ops[i]? = some oi → ops[j]? = some oj → oi.dst = some t → oj.dst = some t → i = j := by
    intro i j oi oj t hi hj ti tj
    by_cases e : i = j
    · exact e
    · exact absurd tj (((seqOk_spec hok hj).2.2 i oi hi e t ti).1)
  have main : ∀ (fuel : Nat) (listed : Array Bool) (b : Act) (w : World), ((List.range m).filter (fun k => !listed.getD k true)).length + (ops.size - m) ≤ fuel →
      Midway ops a (A m) listed b → (∀ k, listed.getD k false = true → k < m) → S listed w → wpAny P .any ops Q fuel listed b w := by
    intro fuel
    induction fuel with
    | zero =>
      intro listed b w hf hM hin hw
      have hall : ∀ k, k < m → listed.getD k false = true := by
        intro k hk
        have hnil : (List.range m).filter (fun k => !listed.getD k true) = [] := List.length_eq_zero_iff.1 (by omega)
        have := (List.filter_eq_nil_iff.1 hnil) k (List.mem_range.2 hk)
        have hkl : k < listed.size := by rw [hM.len]; omega
        simpa [hkl] using this
      have hfin : b = A m := by
        refine act_ext (Array.ext_getElem? fun t => ?_) (by rw [hM.defers, (asz _ (Nat.le_refl _)).2])
        by_cases hx : ∃ (k : Nat) (o : Oper), k < m ∧ ops[k]? = some o ∧ o.dst = some t
        · obtain ⟨k, o, hk, ho, ht⟩ := hx
          exact hM.done k o t ho (hall k hk) ht
        · rw [hM.left t (fun k o ho hl ht => hx ⟨k, o, hin k hl, ho, ht⟩), far 0 t m (by omega) (Nat.le_refl _) (fun i o _ hi ho ht => hx ⟨i, o, hi, ho, ht⟩), hA0]
      rw [hfin]
      exact forced hok ht (ops.size - m) m 0 listed _ w rfl (by omega) (Nat.le_refl _) hms ⟨hM.len, fun i _ => ⟨fun e => hin i e, fun e => hall i e⟩⟩ hM.closed (hQ listed w hM.len hall hw)
    | succ fuel ih =>
      intro listed b w hf hM hin hw
      by_cases hall : ∀ k, k < m → listed.getD k false = true
      · have hfin : b = A m := by
          refine act_ext (Array.ext_getElem? fun t => ?_) (by rw [hM.defers, (asz _ (Nat.le_refl _)).2])
          by_cases hx : ∃ (k : Nat) (o : Oper), k < m ∧ ops[k]? = some o ∧ o.dst = some t
          · obtain ⟨k, o, hk, ho, ht⟩ := hx
            exact hM.done k o t ho (hall k hk) ht
          · rw [hM.left t (fun k o ho hl ht => hx ⟨k, o, hin k hl, ho, ht⟩), far 0 t m (by omega) (Nat.le_refl _) (fun i o _ hi ho ht => hx ⟨i, o, hi, ho, ht⟩), hA0]
        rw [hfin]
        exact forced hok ht (ops.size - m) m (fuel + 1) listed _ w rfl (by omega) (Nat.le_refl _) hms ⟨hM.len, fun i _ => ⟨fun e => hin i e, fun e => hall i e⟩⟩ hM.closed (hQ listed w hM.len hall hw)
      · refine ⟨fun hnil => absurd ?_ hall, fun j hj => ?_⟩
        · -- nothing may come up: then all has
          have hall' : ∀ n k, k < n → k < m → listed.getD k false = true := by
            intro n
            induction n with
            | zero => intro k hk; omega
            | succ n ihn =>
              intro k hk hs
              by_cases hl : listed.getD k false = true
              · exact hl
              · exfalso
                have hks : k < ops.size := by omega
                have hkl : k < listed.size := by rw [hM.len]; exact hks
                have hmem : k ∈ Region.ready .any ops listed := mem_ready.2 ⟨by simpa [hkl] using hl, _, Array.getElem?_eq_getElem hks, fun e he hb => by
                  have hlt := (seqOk_spec hok (Array.getElem?_eq_getElem hks)).2.1 e he hb
                  exact ihn e.on (by omega) (by omega)⟩
                rw [hnil] at hmem
                cases hmem
          exact fun k hk => hall' _ k (Nat.lt_succ_self k) hk
        · obtain ⟨hjun, o, ho, hedges⟩ := mem_ready.1 hj
          have hjs : j < ops.size := (Array.getElem?_eq_some_iff.1 ho).1
          have hjl : j < listed.size := by rw [hM.len]; exact hjs
          have hjun' : listed.getD j false = false := by simpa [hjl] using hjun
          have hmet : AllMet ops listed j := fun o' ho' e he hb => by
            rw [ho] at ho'
            cases ho'
            exact hedges e he hb
          have hjm : j < m := by
            refine Nat.lt_of_not_le fun hle => hall fun k hk => ?_
            exact met_bit hM.closed k (j + 1) j (by omega) hjs hmet (tailOk_spec ht hjs hle (by omega))
          obtain ⟨v, hv, step⟩ := hA' j o hjm ho
          have hag : Agree ops o (A j) b := by
            refine ⟨by rw [hM.size, (asz j (by omega)).1], fun t ht => ?_⟩
            by_cases hx : ∃ (i : Nat) (oi : Oper), ops[i]? = some oi ∧ oi.dst = some t
            · obtain ⟨i, oi, hi, hti⟩ := hx
              by_cases hij : i = j
              · rw [hM.left t (fun k ok hk hlk htk => by
                  have : k = i := unlike k i ok oi t hk hi htk hti
                  rw [this, hij, hjun'] at hlk
                  cases hlk), far 0 t j (by omega) (by omega) (fun k ok _ hk hok' htk => by
                  have : k = i := unlike k i ok oi t hok' hi htk hti
                  omega), hA0]
              · rcases ((seqOk_spec hok ho).2.2 i oi hi hij t hti).2 ht with ⟨hlt, hbit⟩ | ⟨hlt, hbit⟩
                · have hli := met_bit hM.closed i (j + 1) j (by omega) hjs hmet hbit
                  rw [hM.done i oi t hi hli hti]
                  exact far j t m (by omega) (Nat.le_refl _) (fun k ok hk _ hok' htk => by
                    have : k = i := unlike k i ok oi t hok' hi htk hti
                    omega)
                · have hun : listed.getD i false ≠ true := fun hli => by
                    have his : i < ops.size := (Array.getElem?_eq_some_iff.1 hi).1
                    have := met_bit hM.closed j (i + 1) i (by omega) his (hM.closed i hli) hbit
                    rw [hjun'] at this
                    cases this
                  rw [hM.left t (fun k ok hk hlk htk => by
                    have : k = i := unlike k i ok oi t hk hi htk hti
                    rw [this] at hlk
                    exact hun hlk), far 0 t j (by omega) (by omega) (fun k ok _ hk hok' htk => by
                    have : k = i := unlike k i ok oi t hok' hi htk hti
                    omega), hA0]
            · rw [hM.left t (fun k ok hk _ htk => hx ⟨k, ok, hk, htk⟩), far 0 t j (by omega) (by omega) (fun k ok _ _ hk htk => hx ⟨k, ok, hk, htk⟩), hA0]
          have hM' : Midway ops a (A m) (listed.setIfInBounds j true) (b.put o.dst v) := by
            refine ⟨by rw [put_size, hM.size], by rw [put_defs, hM.defers], by rw [Array.size_setIfInBounds, hM.len], fun y hy => ?_, fun k ok t hk hlk htk => ?_, fun t hno => ?_⟩
            · intro oy hoy e he hb
              by_cases hyj : j = y
              · subst hyj
                exact getD_set_true (hmet oy hoy e he hb)
              · rw [getD_set_ne false hyj] at hy
                exact getD_set_true (hM.closed y hy oy hoy e he hb)
            · by_cases hkj : j = k
              · subst hkj
                rw [ho] at hk
                cases hk
                rw [htk, put_at (b := A j) (by rw [hM.size, (asz j (by omega)).1]), ← htk, ← hv]
                exact (far (j + 1) t m (by omega) (Nat.le_refl _) (fun i oi hi _ hoi hti => by
                  have : i = j := unlike i j oi o t hoi ho hti htk
                  omega)).symm
              · rw [getD_set_ne false hkj] at hlk
                rw [put_ne (fun e => hkj (unlike j k o ok t ho hk e htk))]
                exact hM.done k ok t hk hlk htk
            · have hjt : o.dst ≠ some t := hno j o ho (by simp [hjl])
              rw [put_ne hjt]
              refine hM.left t (fun k ok hk hlk => hno k ok hk ?_)
              exact getD_set_true hlk
          unfold wpOp
          simp only [ho]
          refine step listed b w _ Q hag hM.len hjun' hmet hw (fun w' hw' => ih _ _ w' ?_ hM' (fun k hk => ?_) hw')
          · have := count_lt (p := fun k => !listed.getD k true) (q := fun k => !(listed.setIfInBounds j true).getD k true) (fun k hk => by
              by_cases hkj : j = k
              · subst hkj; simp [hjun]
              · rw [getD_set_ne true hkj] at hk; exact hk) (j := j) (by simp [hjun]) (by simp [hjl]) (List.mem_range.2 hjm)
            omega
          · by_cases hkj : j = k
            · omega
            · rw [getD_set_ne false hkj] at hk
              exact hin k hk
  refine wp_region_any hm (main ops.size _ a w.drew ?_ ?_ ?_ hS)
  · have := List.length_filter_le (fun k => !(Array.replicate ops.size false).getD k true) (List.range m)
    simp only [List.length_range] at this
    omega
  · refine ⟨rfl, rfl, by simp, fun y hy => ?_, fun k o t ho hk _ => ?_, fun t _ => rfl⟩
    · simp [Array.getElem?_replicate] at hy
      split at hy <;> simp at hy
    · simp [Array.getElem?_replicate] at hk
      split at hk <;> simp at hk
  · intro k hk
    simp [Array.getElem?_replicate] at hk
    split at hk <;> simp at hk
theorem walkedM_cons {n j : Nat} {Qf : Act → Prop} {o : Oper} {r : List Oper} {a a' : Act} (hg : GivesM P ops S n j o a a') (hd : a'.defers = a.defers) (hr : WalkedM P ops S n Qf r (j + 1) a') : WalkedM P ops S n Qf (o :: r) j a := ⟨a', hg, hd, hr⟩
theorem walkedM_nil {n j : Nat} {Qf : Act → Prop} {a : Act} (h : Qf a) : WalkedM P ops S n Qf [] j a := h
end
end Go.Proofs.Ytfiofjalpaeohaa
/- As StageM, with one allocation that may come anywhere: its pointer is not fixed. No function of the program stands here. -/
namespace Go.Proofs.Ytfiofjalpaeohaa
set_option linter.unusedVariables false
set_option linter.unusedSimpArgs false
open Go.RowKit
section
variable {P : Program} {ops : Array Oper} {Q : Exit → Act → World → Prop}
/-- What an operation gives at one frame it gives at every frame that agrees on what it looks at. -/
theorem gives_stepF {S : Array Bool → World → Prop} {n j : Nat} {o : Oper} {a : Act} {v : Value} (h : GivesM P ops S n j o a (a.put o.dst v)) (hs : ∀ cs c, o.op ≠ .select cs c) :
    ∀ (l : Array Bool) (b : Act) (w : World) (K : Act → World → Prop) (Q : Exit → Act → World → Prop), Agree ops o a b → l.size = n → l.getD j false = false → AllMet ops l j → S l w → (∀ w', S (l.setIfInBounds j true) w' → K (b.put o.dst v) w') →
      (if Region.wanted o (yielded ops b.tmps) then o.wp P b w K Q ∨ (o.asks P b w ∧ LetsOut Q) else K (b.put o.dst undef) w) := by
  intro l b w K Q hab hz hn hm hS hK
  have hd : (a.put o.dst v).defers = a.defers := put_defs _ _ _
  obtain ⟨a', hv⟩ : ∃ a', a' = a.put o.dst v := ⟨_, rfl⟩
  rw [← hv] at h hd
  by_cases hw : Region.wanted o (yielded ops a.tmps) = true
  · -- what it comes to in a world of S
    have key : ∀ l w, l.size = n → l.getD j false = false → AllMet ops l j → S l w → o.wp P a w (fun a'' w' => a'' = a' ∧ S (l.setIfInBounds j true) w') (fun _ _ _ => False) := by
      intro l w hz hn hm hS
      have h1 := h l w hz hn hm hS
      unfold wpList at h1
      rw [if_pos hw] at h1
      rcases h1 with h1 | ⟨_, a1, w1, h1, _⟩
      · unfold Oper.wp at h1 ⊢
        generalize (execOp a.eval o).run P w = r at h1 ⊢
        cases r with
        | ok n w' =>
          cases n with
          | value v => exact h1.2
          | skip => exact h1.2
          | defer d => exact h1.2
          | enter f args =>
            simp only [Oper.upon] at h1 ⊢
            refine Calls.mono h1 fun e w'' he => ?_
            cases e with
            | returned v => exact he.2
            | panicked c => exact absurd he.1 (by simp)
            | outgrown => obtain ⟨_, _, h2, _⟩ := he; exact absurd h2 (by simp)
          | row row args =>
            simp only [Oper.upon] at h1 ⊢
            exact Rows.mono h1 fun v w'' he => he.2
          | _ => exact (h1 : False).elim
        | halt x w' =>
          cases x <;> simp only [Oper.upon] at h1 ⊢ <;> first | exact h1 | exact absurd h1.1 (by simp)
      · exact absurd h1 (by simp)
    have nodefer : ∀ d, ({ a with defers := d :: a.defers } : Act).put o.dst undef ≠ a' := by
      intro d e
      have h1 := congrArg Act.defers e
      rw [hd] at h1
      have h2 : (({ a with defers := d :: a.defers } : Act).put o.dst undef).defers = d :: a.defers := by cases o.dst <;> rfl
      rw [h2] at h1
      have := congrArg List.length h1
      simp at this
    rw [agree_wanted hab, if_pos hw]
    refine .inl ?_
    have k := key l w hz hn hm hS
    unfold Oper.wp at k ⊢
    rw [agree_eval hab hs]
    have same : ∀ u, a.put o.dst u = a' → b.put o.dst u = b.put o.dst v := fun u hu => put_same hab.1 (hu.trans hv)
    generalize (execOp a.eval o).run P w = r at k ⊢
    cases r with
    | ok n w' =>
      cases n with
      | value u => show K _ _; rw [same u k.1]; exact hK _ k.2
      | skip => show K _ _; rw [same undef k.1]; exact hK _ k.2
      | defer d => exact absurd k.1 (nodefer d)
      | enter f args =>
        simp only [Oper.upon] at k ⊢
        refine Calls.mono k fun e w'' he => ?_
        cases e with
        | returned u => show K _ _; rw [same u he.1]; exact hK _ he.2
        | panicked c => exact he.elim
        | outgrown => obtain ⟨_, _, h2⟩ := he; exact h2.elim
      | row row args =>
        simp only [Oper.upon] at k ⊢
        refine Rows.mono k fun u w'' he => ?_
        rw [same u he.1]; exact hK _ he.2
      | _ => exact (k : False).elim
    | halt x w' => cases x <;> simp only [Oper.upon] at k
  · rw [agree_wanted hab, if_neg hw]
    have h1 := h l w hz hn hm hS
    unfold wpList at h1
    rw [if_neg hw] at h1
    have e : a.put o.dst undef = a.put o.dst v := h1.2.1.trans hv
    rw [put_same hab.1 e]
    exact hK w h1.2.2
section
variable {S : Value → Array Bool → World → Prop}
end
end
end Go.Proofs.Ytfiofjalpaeohaa
/- As Free, with any number of allocations that may come anywhere: their pointers are not fixed. No function of the program stands here. -/
namespace Go.Proofs.Ytfiofjalpaeohaa
set_option linter.unusedVariables false
set_option linter.unusedSimpArgs false
open Go.RowKit
section
variable {P : Program} {ops : Array Oper} {Q : Exit → Act → World → Prop}
section
variable {S : (Nat → Value) → Array Bool → World → Prop}
/-- One value is told anew. -/
def updV (v : Nat → Value) (j : Nat) (u : Value) : Nat → Value := fun k => if k = j then u else v k
theorem updV_same (v : Nat → Value) (j : Nat) (u : Value) : updV v j u j = u := if_pos rfl
theorem updV_ne {v : Nat → Value} {j k : Nat} (u : Value) (h : k ≠ j) : updV v j u k = v k := if_neg h
end
end
end Go.Proofs.Ytfiofjalpaeohaa
/- A drawn statement with two stores into two blocks, in either order (a 'return' of two structs that are result variables). No function of the program stands here. -/
namespace Go.Proofs.Ytfiofjalpaeohaa
set_option linter.unusedVariables false
set_option linter.unusedSimpArgs false
open Go.RowKit
section
variable {J1 J2 b1 b2 : Nat} {o1 o2 : Obj} {W x : World} {l : Array Bool}
end
section
variable {P : Program} {w : World}
end
section
variable {J1 J2 : Nat} {W W1 W2 W12 x : World} {l : Array Bool}
end
end Go.Proofs.Ytfiofjalpaeohaa
/- A drawn statement 'x, y := call' with allocations for x and y that may come before or behind the call: what holds meanwhile. No function of the program stands here. -/
namespace Go.Proofs.Ytfiofjalpaeohaa
set_option linter.unusedVariables false
set_option linter.unusedSimpArgs false
open Go.RowKit
/-- An allocation's number, its store's, the block's first cells, those behind the store, their type. -/
structure FrE where
  A : Nat
  B : Nat
  Z : Array Value
  Q : Array Value
  t : TypeId
section
variable {N J : Nat} {x0 x y : World} {M0 M1 : World → Prop} {G : Nat → Prop} {L : List FrE} {v : Nat → Value} {l : Array Bool}
end
section
variable {N J B b : Nat} {Z Q : Array Value} {t : TypeId} {x0 x y : World} {M0 M1 : World → Prop} {G G0 : Nat → Prop} {L : List FrE} {v : Nat → Value} {l : Array Bool}
end
end Go.Proofs.Ytfiofjalpaeohaa
namespace Go.Proofs.Ytfiofjalpaeohaa
set_option linter.unusedVariables false
set_option linter.unusedSimpArgs false
open Go.RowKit
section
variable {P : Program} {ops : Array Oper} {Q : Exit → Act → World → Prop}
/-- The operations one by one, in the order of the text; those that F names give what they will. -/
def WalkedE (P : Program) (ops : Array Oper) (S : (Nat → Value) → Array Bool → World → Prop) (F : Nat → Bool) (n : Nat) (Q : (Nat → Value) → Act → Prop) : List Oper → Nat → ((Nat → Value) → Act) → Prop
  | [], _, a => ∀ v, Q v (a v)
  | o :: r, j, a => (F j = true ∧ (∀ (v : Nat → Value) (l : Array Bool) (b : Act) (x : World) (K : Act → World → Prop) (Q : Exit → Act → World → Prop), Agree ops o (a v) b → l.size = n → l.getD (j) false = false → AllMet ops l (j) → S v l x → (∀ u y, S (updV v (j) u) (l.setIfInBounds (j) true) y → K (b.put o.dst u) y) → (if Region.wanted o (yielded ops b.tmps) then o.wp P b x K Q ∨ (o.asks P b x ∧ LetsOut Q) else K (b.put o.dst undef) x)) ∧ WalkedE P ops S F n Q r (j + 1) (fun v => (a v).put o.dst (v j))) ∨ (F j = false ∧ ∃ u : (Nat → Value) → Value, (∀ v i x l, AllMet ops l j → l.getD i false = false → u (updV v i x) = u v) ∧ (∀ v, GivesM P ops (S v) n j o (a v) ((a v).put o.dst (u v))) ∧ WalkedE P ops S F n Q r (j + 1) (fun v => (a v).put o.dst (u v)))
section
variable {S : (Nat → Value) → Array Bool → World → Prop}
theorem walkedE_chain {F : Nat → Bool} {n : Nat} {Qf : (Nat → Value) → Act → Prop} : ∀ {L : List Oper} (_ : ∀ (j : Nat) (o : Oper), L[j]? = some o → ∀ cs c, o.op ≠ .select cs c) (a : (Nat → Value) → Act) {j0 : Nat}, WalkedE P ops S F n Qf L j0 a →
    ∃ A : (Nat → Value) → Nat → Act, (∀ v, A v 0 = a v) ∧ (∀ k o, L[k]? = some o → F (j0 + k) = false → ∃ u : (Nat → Value) → Value, (∀ v i x l, AllMet ops l (j0 + k) → l.getD i false = false → u (updV v i x) = u v) ∧ ∀ v, A v (k + 1) = (A v k).put o.dst (u v) ∧ ∀ (l : Array Bool) (b : Act) (w : World) (K : Act → World → Prop) (Q : Exit → Act → World → Prop), Agree ops o (A v k) b → l.size = n → l.getD (j0 + k) false = false → AllMet ops l (j0 + k) → S v l w →
      (∀ w', S v (l.setIfInBounds (j0 + k) true) w' → K (b.put o.dst (u v)) w') → (if Region.wanted o (yielded ops b.tmps) then o.wp P b w K Q ∨ (o.asks P b w ∧ LetsOut Q) else K (b.put o.dst undef) w)) ∧
      (∀ k o, L[k]? = some o → F (j0 + k) = true → ∀ v, A v (k + 1) = (A v k).put o.dst (v (j0 + k))) ∧ (∀ k o, L[k]? = some o → F (j0 + k) = true → (∀ (v : Nat → Value) (l : Array Bool) (b : Act) (x : World) (K : Act → World → Prop) (Q : Exit → Act → World → Prop), Agree ops o (A v k) b → l.size = n → l.getD (j0 + k) false = false → AllMet ops l (j0 + k) → S v l x → (∀ u y, S (updV v (j0 + k) u) (l.setIfInBounds (j0 + k) true) y → K (b.put o.dst u) y) → (if Region.wanted o (yielded ops b.tmps) then o.wp P b x K Q ∨ (o.asks P b x ∧ LetsOut Q) else K (b.put o.dst undef) x))) ∧ ∀ v, Qf v (A v L.length) := by
  intro L
  induction L with
  | nil => intro _ a j0 h; exact ⟨fun v _ => a v, fun _ => rfl, fun k o hk => by simp at hk, fun k o hk => by simp at hk, fun k o hk => by simp at hk, h⟩
  | cons o L ih =>
    intro hs a j0 h
    rcases h with ⟨hj, hru, hr⟩ | ⟨hj, u, hdp, hg, hr⟩
    · obtain ⟨A, hA0, hA1, hA2, hA4, hA3⟩ := ih (fun j o' ho' => hs (j + 1) o' (by simpa using ho')) _ hr
      refine ⟨fun v k => match k with | 0 => a v | k + 1 => A v k, fun _ => rfl, fun k o' hk hF => ?_, fun k o' hk hF v => ?_, fun k o' hk hF => ?_, hA3⟩
      · cases k with
        | zero =>
          rw [Nat.add_zero, hj] at hF; cases hF
        | succ k =>
          have := hA1 k o' (by simpa using hk) (by rw [show j0 + 1 + k = j0 + (k + 1) by omega]; exact hF)
          rw [show j0 + 1 + k = j0 + (k + 1) by omega] at this
          exact this
      · cases k with
        | zero =>
          simp at hk
          subst hk
          show A v 0 = (a v).put o.dst (v (j0 + 0))
          rw [hA0]; rfl
        | succ k =>
          have := hA2 k o' (by simpa using hk) (by rw [show j0 + 1 + k = j0 + (k + 1) by omega]; exact hF) v
          rw [show j0 + 1 + k = j0 + (k + 1) by omega] at this
          exact this
      · cases k with
        | zero =>
          simp at hk
          subst hk
          exact hru
        | succ k => 
          have := hA4 k o' (by simpa using hk) (by rw [show j0 + 1 + k = j0 + (k + 1) by omega]; exact hF)
          rw [show j0 + 1 + k = j0 + (k + 1) by omega] at this
          exact this
    · obtain ⟨A, hA0, hA1, hA2, hA4, hA3⟩ := ih (fun j o' ho' => hs (j + 1) o' (by simpa using ho')) _ hr
      refine ⟨fun v k => match k with | 0 => a v | k + 1 => A v k, fun _ => rfl, fun k o' hk hF => ?_, fun k o' hk hF v => ?_, fun k o' hk hF => ?_, hA3⟩
      · cases k with
        | zero =>
          simp at hk
          subst hk
          exact ⟨u, hdp, fun v => ⟨by show A v 0 = _; rw [hA0], gives_stepF (hg v) (hs 0 o rfl)⟩⟩
        | succ k =>
          have := hA1 k o' (by simpa using hk) (by rw [show j0 + 1 + k = j0 + (k + 1) by omega]; exact hF)
          rw [show j0 + 1 + k = j0 + (k + 1) by omega] at this
          exact this
      · cases k with
        | zero => rw [Nat.add_zero, hj] at hF; cases hF
        | succ k =>
          have := hA2 k o' (by simpa using hk) (by rw [show j0 + 1 + k = j0 + (k + 1) by omega]; exact hF) v
          rw [show j0 + 1 + k = j0 + (k + 1) by omega] at this
          exact this
      · cases k with
        | zero => rw [Nat.add_zero, hj] at hF; cases hF
        | succ k => 
          have := hA4 k o' (by simpa using hk) (by rw [show j0 + 1 + k = j0 + (k + 1) by omega]; exact hF)
          rw [show j0 + 1 + k = j0 + (k + 1) by omega] at this
          exact this
/-- **As wp_region_met; the operations that F names are allocations that may come anywhere.** -/
theorem wp_region_freesE (F : Nat → Bool) (m : Nat) {id : Nat} {a : Act} {w : World}
    (hm : P.follows .mixedOrders = true) (hok : seqOk ops = true) (ht : tailOk ops m = true) (hms : m ≤ ops.size) (v0 : Nat → Value) (hS : S v0 (Array.replicate ops.size false) w.drew)
    (h : WalkedE P ops S F ops.size (fun v a' => ∀ l w', l.size = ops.size → (∀ k, k < m → l.getD k false = true) → S v l w' → wpList P ops Q (ops.toList.drop m) a' w') (ops.toList.take m) 0 (fun _ => a)) : (Code.region id ops true).wp P Q a w := by
  obtain ⟨A, hA0, hA1, hA2, hA4, hQ⟩ := walkedE_chain (fun j o ho => (seqOk_spec (j := j) hok (by rw [List.getElem?_take] at ho; split at ho; (· simpa using ho); (· cases ho))).1) _ h
  have hA' : ∀ k o, k < m → ops[k]? = some o → F k = false → ∃ u : (Nat → Value) → Value, (∀ v i x l, AllMet ops l k → l.getD i false = false → u (updV v i x) = u v) ∧ ∀ v, A v (k + 1) = (A v k).put o.dst (u v) ∧ ∀ (l : Array Bool) (b : Act) (w : World) (K : Act → World → Prop) (Q : Exit → Act → World → Prop), Agree ops o (A v k) b → l.size = ops.size → l.getD k false = false → AllMet ops l k → S v l w →
      (∀ w', S v (l.setIfInBounds k true) w' → K (b.put o.dst (u v)) w') → (if Region.wanted o (yielded ops b.tmps) then o.wp P b w K Q ∨ (o.asks P b w ∧ LetsOut Q) else K (b.put o.dst undef) w) := fun k o hk ho hkF => by
    simpa using hA1 k o (by rw [List.getElem?_take, if_pos hk]; simpa using ho) (by rw [Nat.zero_add]; exact hkF)
  have hAF : ∀ k o v, k < m → ops[k]? = some o → F k = true → A v (k + 1) = (A v k).put o.dst (v k) := fun k o v hk ho hkF => by
    have := hA2 k o (by rw [List.getElem?_take, if_pos hk]; simpa using ho) (by rw [Nat.zero_add]; exact hkF) v
    rw [Nat.zero_add] at this
    exact this
  have hAR : ∀ k o, k < m → ops[k]? = some o → F k = true → (∀ (v : Nat → Value) (l : Array Bool) (b : Act) (x : World) (K : Act → World → Prop) (Q : Exit → Act → World → Prop), Agree ops o (A v k) b → l.size = ops.size → l.getD (k) false = false → AllMet ops l (k) → S v l x → (∀ u y, S (updV v (k) u) (l.setIfInBounds (k) true) y → K (b.put o.dst u) y) → (if Region.wanted o (yielded ops b.tmps) then o.wp P b x K Q ∨ (o.asks P b x ∧ LetsOut Q) else K (b.put o.dst undef) x)) := fun k o hk ho hkF => by
    have := hA4 k o (by rw [List.getElem?_take, if_pos hk]; simpa using ho) (by rw [Nat.zero_add]; exact hkF)
    simpa only [Nat.zero_add] using this
  have hAll : ∀ v k o, k < m → ops[k]? = some o → ∃ u, A v (k + 1) = (A v k).put o.dst u := fun v k o hk ho => by
    cases hkF : F k with
    | true => exact ⟨v k, hAF k o v hk ho hkF⟩
    | false =>
      obtain ⟨u, -, hu⟩ := hA' k o hk ho hkF
      exact ⟨u v, (hu v).1⟩
  have hlen : (ops.toList.take m).length = m := by simp [Nat.min_eq_left hms]
  rw [hlen] at hQ
  have asz : ∀ v k, k ≤ m → (A v k).tmps.size = a.tmps.size ∧ (A v k).defers = a.defers := by
    intro v k
    induction k with
    | zero => intro _; rw [hA0 v]; exact ⟨rfl, rfl⟩
    | succ k ih =>
      intro hk
      obtain ⟨u, hv⟩ := hAll v k _ (by omega) (Array.getElem?_eq_getElem (show k < ops.size by omega))
      obtain ⟨i1, i2⟩ := ih (by omega)
      rw [hv, put_size, put_defs]; exact ⟨i1, i2⟩
  have far : ∀ v k t n, k ≤ n → n ≤ m → (∀ i o, k ≤ i → i < n → ops[i]? = some o → o.dst ≠ some t) → (A v n).tmps[t]? = (A v k).tmps[t]? := by
    intro v k t n
    induction n with
    | zero => intro h1 _ _; rw [show k = 0 by omega]
    | succ n ih =>
      intro h1 h2 hno
      by_cases hkm : k = n + 1
      · rw [hkm]
      · obtain ⟨u, hv⟩ := hAll v n _ (by omega) (Array.getElem?_eq_getElem (show n < ops.size by omega))
        rw [hv, put_ne (hno n _ (by omega) (by omega) (Array.getElem?_eq_getElem (show n < ops.size by omega)))]
        exact ih (by omega) (by omega) (fun i o hi hi' ho => hno i o hi (by omega) ho)
  have unlike : ∀ (i j : Nat) (oi oj : Oper) (t : Tmp), ops[i]? = some oi → ops[j]? = some oj → oi.dst = some t → oj.dst = some t → i = j := by
    intro i j oi oj t hi hj ti tj
    by_cases e : i = j
    · exact e
    · exact absurd tj (((seqOk_spec hok hj).2.2 i oi hi e t ti).1)
  have same : ∀ (v : Nat → Value) (j : Nat) (x : Value) (l : Array Bool) (k : Nat) (o : Oper) (t : Tmp), ops[k]? = some o → k < m → k ≠ j → AllMet ops l k → l.getD j false = false → o.dst = some t → (A (updV v j x) m).tmps[t]? = (A v m).tmps[t]? := by
    intro v j x l k o t ho hk hkj hmk hlj ht
    obtain ⟨u, hu1, hu2⟩ : ∃ u, A (updV v j x) (k + 1) = (A (updV v j x) k).put o.dst u ∧ A v (k + 1) = (A v k).put o.dst u := by
      cases hF : F k with
      | true => exact ⟨v k, by rw [← updV_ne (v := v) x hkj]; exact hAF k o _ hk ho hF, hAF k o v hk ho hF⟩
      | false =>
        obtain ⟨u, hd, hu⟩ := hA' k o hk ho hF
        exact ⟨u v, by rw [← hd v j x l hmk hlj]; exact (hu _).1, (hu v).1⟩
    have hno : ∀ i oi, k + 1 ≤ i → i < m → ops[i]? = some oi → oi.dst ≠ some t := fun i oi hi _ hoi hti => by
      have : i = k := unlike i k oi o t hoi ho hti ht
      omega
    rw [far _ (k + 1) t m (by omega) (Nat.le_refl _) hno, far v (k + 1) t m (by omega) (Nat.le_refl _) hno, hu1, hu2, ht]
    exact put_at (by rw [(asz v k (by omega)).1, (asz _ k (by omega)).1])
  have main : ∀ (fuel : Nat) (listed : Array Bool) (b : Act) (w : World), ((List.range m).filter (fun k => !listed.getD k true)).length + (ops.size - m) ≤ fuel →
      (∃ v, Midway ops a (A v m) listed b ∧ S v listed w) → (∀ k, listed.getD k false = true → k < m) → wpAny P .any ops Q fuel listed b w := by
    intro fuel
    induction fuel with
    | zero =>
      intro listed b w hf hMw hin
      obtain ⟨vv, hM, hw⟩ := hMw
      have hall : ∀ k, k < m → listed.getD k false = true := by
        intro k hk
        have hnil : (List.range m).filter (fun k => !listed.getD k true) = [] := List.length_eq_zero_iff.1 (by omega)
        have := (List.filter_eq_nil_iff.1 hnil) k (List.mem_range.2 hk)
        have hkl : k < listed.size := by rw [hM.len]; omega
        simpa [hkl] using this
      have hfin : b = A vv m := by
        refine act_ext (Array.ext_getElem? fun t => ?_) (by rw [hM.defers, (asz vv _ (Nat.le_refl _)).2])
        by_cases hx : ∃ (k : Nat) (o : Oper), k < m ∧ ops[k]? = some o ∧ o.dst = some t
        · obtain ⟨k, o, hk, ho, ht⟩ := hx
          exact hM.done k o t ho (hall k hk) ht
        · rw [hM.left t (fun k o ho hl ht => hx ⟨k, o, hin k hl, ho, ht⟩), far vv 0 t m (by omega) (Nat.le_refl _) (fun i o _ hi ho ht => hx ⟨i, o, hi, ho, ht⟩), hA0 vv]
      rw [hfin]
      exact forced hok ht (ops.size - m) m 0 listed _ w rfl (by omega) (Nat.le_refl _) hms ⟨hM.len, fun i _ => ⟨fun e => hin i e, fun e => hall i e⟩⟩ hM.closed (hQ vv listed w hM.len hall hw)
    | succ fuel ih =>
      intro listed b w hf hMw hin
      obtain ⟨vv, hM, hw⟩ := hMw
      by_cases hall : ∀ k, k < m → listed.getD k false = true
      · have hfin : b = A vv m := by
          refine act_ext (Array.ext_getElem? fun t => ?_) (by rw [hM.defers, (asz vv _ (Nat.le_refl _)).2])
          by_cases hx : ∃ (k : Nat) (o : Oper), k < m ∧ ops[k]? = some o ∧ o.dst = some t
          · obtain ⟨k, o, hk, ho, ht⟩ := hx
            exact hM.done k o t ho (hall k hk) ht
          · rw [hM.left t (fun k o ho hl ht => hx ⟨k, o, hin k hl, ho, ht⟩), far vv 0 t m (by omega) (Nat.le_refl _) (fun i o _ hi ho ht => hx ⟨i, o, hi, ho, ht⟩), hA0 vv]
        rw [hfin]
        exact forced hok ht (ops.size - m) m (fuel + 1) listed _ w rfl (by omega) (Nat.le_refl _) hms ⟨hM.len, fun i _ => ⟨fun e => hin i e, fun e => hall i e⟩⟩ hM.closed (hQ vv listed w hM.len hall hw)
      · refine ⟨fun hnil => absurd ?_ hall, fun j hj => ?_⟩
        · -- nothing may come up: then all has
          have hall' : ∀ n k, k < n → k < m → listed.getD k false = true := by
            intro n
            induction n with
            | zero => intro k hk; omega
            | succ n ihn =>
              intro k hk hs
              by_cases hl : listed.getD k false = true
              · exact hl
              · exfalso
                have hks : k < ops.size := by omega
                have hkl : k < listed.size := by rw [hM.len]; exact hks
                have hmem : k ∈ Region.ready .any ops listed := mem_ready.2 ⟨by simpa [hkl] using hl, _, Array.getElem?_eq_getElem hks, fun e he hb => by
                  have hlt := (seqOk_spec hok (Array.getElem?_eq_getElem hks)).2.1 e he hb
                  exact ihn e.on (by omega) (by omega)⟩
                rw [hnil] at hmem
                cases hmem
          exact fun k hk => hall' _ k (Nat.lt_succ_self k) hk
        · obtain ⟨hjun, o, ho, hedges⟩ := mem_ready.1 hj
          have hjs : j < ops.size := (Array.getElem?_eq_some_iff.1 ho).1
          have hjl : j < listed.size := by rw [hM.len]; exact hjs
          have hjun' : listed.getD j false = false := by simpa [hjl] using hjun
          have hmet : AllMet ops listed j := fun o' ho' e he hb => by
            rw [ho] at ho'
            cases ho'
            exact hedges e he hb
          have hjm : j < m := by
            refine Nat.lt_of_not_le fun hle => hall fun k hk => ?_
            exact met_bit hM.closed k (j + 1) j (by omega) hjs hmet (tailOk_spec ht hjs hle (by omega))
          have hag : Agree ops o (A vv j) b := by
            refine ⟨by rw [hM.size, (asz vv j (by omega)).1], fun t ht => ?_⟩
            by_cases hx : ∃ (i : Nat) (oi : Oper), ops[i]? = some oi ∧ oi.dst = some t
            · obtain ⟨i, oi, hi, hti⟩ := hx
              by_cases hij : i = j
              · rw [hM.left t (fun k ok hk hlk htk => by
                  have : k = i := unlike k i ok oi t hk hi htk hti
                  rw [this, hij, hjun'] at hlk
                  cases hlk), far vv 0 t j (by omega) (by omega) (fun k ok _ hk hok' htk => by
                  have : k = i := unlike k i ok oi t hok' hi htk hti
                  omega), hA0 vv]
              · rcases ((seqOk_spec hok ho).2.2 i oi hi hij t hti).2 ht with ⟨hlt, hbit⟩ | ⟨hlt, hbit⟩
                · have hli := met_bit hM.closed i (j + 1) j (by omega) hjs hmet hbit
                  rw [hM.done i oi t hi hli hti]
                  exact far vv j t m (by omega) (Nat.le_refl _) (fun k ok hk _ hok' htk => by
                    have : k = i := unlike k i ok oi t hok' hi htk hti
                    omega)
                · have hun : listed.getD i false ≠ true := fun hli => by
                    have his : i < ops.size := (Array.getElem?_eq_some_iff.1 hi).1
                    have := met_bit hM.closed j (i + 1) i (by omega) his (hM.closed i hli) hbit
                    rw [hjun'] at this
                    cases this
                  rw [hM.left t (fun k ok hk hlk htk => by
                    have : k = i := unlike k i ok oi t hk hi htk hti
                    rw [this] at hlk
                    exact hun hlk), far vv 0 t j (by omega) (by omega) (fun k ok _ hk hok' htk => by
                    have : k = i := unlike k i ok oi t hok' hi htk hti
                    omega), hA0 vv]
            · rw [hM.left t (fun k ok hk _ htk => hx ⟨k, ok, hk, htk⟩), far vv 0 t j (by omega) (by omega) (fun k ok _ _ hk htk => hx ⟨k, ok, hk, htk⟩), hA0 vv]
          cases hjF : F j with
          | true =>
            have hM' : ∀ u, Midway ops a (A (updV vv j (u)) m) (listed.setIfInBounds j true) (b.put o.dst (u)) := by
              intro u
              refine ⟨by rw [put_size, hM.size], by rw [put_defs, hM.defers], by rw [Array.size_setIfInBounds, hM.len], fun y hy => ?_, fun k ok t hk hlk htk => ?_, fun t hno => ?_⟩
              · intro oy hoy e he hb
                by_cases hyj : j = y
                · subst hyj
                  exact getD_set_true (hmet oy hoy e he hb)
                · rw [getD_set_ne false hyj] at hy
                  exact getD_set_true (hM.closed y hy oy hoy e he hb)
              · by_cases hkj : j = k
                · subst hkj
                  rw [ho] at hk
                  cases hk
                  rw [far (updV vv j (u)) (j + 1) t m (by omega) (Nat.le_refl _) (fun i oi hi _ hoi hti => by
                    have : i = j := unlike i j oi o t hoi ho hti htk
                    omega), hAF j o _ hjm ho hjF, htk, updV_same]
                  exact put_at (by rw [(asz (updV vv j (u)) j (by omega)).1, hM.size])
                · rw [getD_set_ne false hkj] at hlk
                  rw [put_ne (fun e => hkj (unlike j k o ok t ho hk e htk)), hM.done k ok t hk hlk htk]
                  exact (same vv j _ listed k ok t hk (hin k hlk) (fun e => hkj e.symm) (fun o' ho' e he hb => hM.closed k hlk o' ho' e he hb) hjun' htk).symm
              · have hjt : o.dst ≠ some t := hno j o ho (by simp [hjl])
                rw [put_ne hjt]
                refine hM.left t (fun k ok hk hlk => hno k ok hk ?_)
                exact getD_set_true hlk
            unfold wpOp
            simp only [ho]
            refine hAR j o hjm ho hjF vv listed b w _ Q hag hM.len hjun' hmet hw (fun u w' hw' => ih _ _ w' ?_ ⟨_, hM' u, hw'⟩ (fun k hk => ?_))
            · have := count_lt (p := fun k => !listed.getD k true) (q := fun k => !(listed.setIfInBounds j true).getD k true) (fun k hk => by
                by_cases hkj : j = k
                · subst hkj; simp [hjun]
                · rw [getD_set_ne true hkj] at hk; exact hk) (j := j) (by simp [hjun]) (by simp [hjl]) (List.mem_range.2 hjm)
              omega
            · by_cases hkj : j = k
              · omega
              · rw [getD_set_ne false hkj] at hk
                exact hin k hk
          | false =>
            obtain ⟨u, -, hAv⟩ := hA' j o hjm ho hjF
            obtain ⟨hv, step⟩ := hAv vv
            generalize u vv = v at hv step
            have hM' : Midway ops a (A vv m) (listed.setIfInBounds j true) (b.put o.dst v) := by
              refine ⟨by rw [put_size, hM.size], by rw [put_defs, hM.defers], by rw [Array.size_setIfInBounds, hM.len], fun y hy => ?_, fun k ok t hk hlk htk => ?_, fun t hno => ?_⟩
              · intro oy hoy e he hb
                by_cases hyj : j = y
                · subst hyj
                  exact getD_set_true (hmet oy hoy e he hb)
                · rw [getD_set_ne false hyj] at hy
                  exact getD_set_true (hM.closed y hy oy hoy e he hb)
              · by_cases hkj : j = k
                · subst hkj
                  rw [ho] at hk
                  cases hk
                  rw [htk, put_at (b := A vv j) (by rw [hM.size, (asz vv j (by omega)).1]), ← htk, ← hv]
                  exact (far vv (j + 1) t m (by omega) (Nat.le_refl _) (fun i oi hi _ hoi hti => by
                    have : i = j := unlike i j oi o t hoi ho hti htk
                    omega)).symm
                · rw [getD_set_ne false hkj] at hlk
                  rw [put_ne (fun e => hkj (unlike j k o ok t ho hk e htk))]
                  exact hM.done k ok t hk hlk htk
              · have hjt : o.dst ≠ some t := hno j o ho (by simp [hjl])
                rw [put_ne hjt]
                refine hM.left t (fun k ok hk hlk => hno k ok hk ?_)
                exact getD_set_true hlk
            unfold wpOp
            simp only [ho]
            refine step listed b w _ Q hag hM.len hjun' hmet hw (fun w' hw' => ih _ _ w' ?_ ⟨vv, hM', hw'⟩ (fun k hk => ?_))
            · have := count_lt (p := fun k => !listed.getD k true) (q := fun k => !(listed.setIfInBounds j true).getD k true) (fun k hk => by
                by_cases hkj : j = k
                · subst hkj; simp [hjun]
                · rw [getD_set_ne true hkj] at hk; exact hk) (j := j) (by simp [hjun]) (by simp [hjl]) (List.mem_range.2 hjm)
              omega
            · by_cases hkj : j = k
              · omega
              · rw [getD_set_ne false hkj] at hk
                exact hin k hk
  refine wp_region_any hm (main ops.size _ a w.drew ?_ ⟨v0, ?_, hS⟩ ?_)
  · have := List.length_filter_le (fun k => !(Array.replicate ops.size false).getD k true) (List.range m)
    simp only [List.length_range] at this
    omega
  · refine ⟨rfl, rfl, by simp, fun y hy => ?_, fun k o t ho hk _ => ?_, fun t _ => rfl⟩
    · simp [Array.getElem?_replicate] at hy
      split at hy <;> simp at hy
    · simp [Array.getElem?_replicate] at hk
      split at hk <;> simp at hk
  · intro k hk
    simp [Array.getElem?_replicate] at hk
    split at hk <;> simp at hk
theorem walkedE_cons {F : Nat → Bool} {n j : Nat} {Qf : (Nat → Value) → Act → Prop} {o : Oper} {r : List Oper} {a : (Nat → Value) → Act} (u : Value) (hj : F j = false) (hg : ∀ v, GivesM P ops (S v) n j o (a v) ((a v).put o.dst u)) (hr : WalkedE P ops S F n Qf r (j + 1) (fun v => (a v).put o.dst u)) : WalkedE P ops S F n Qf (o :: r) j a := .inr ⟨hj, fun _ => u, fun _ _ _ _ _ _ => rfl, hg, hr⟩
theorem walkedE_nil {F : Nat → Bool} {n j : Nat} {Qf : (Nat → Value) → Act → Prop} {a : (Nat → Value) → Act} (h : ∀ v, Qf v (a v)) : WalkedE P ops S F n Qf [] j a := h
end
end
end Go.Proofs.Ytfiofjalpaeohaa
namespace Go.Proofs.Ytfiofjalpaeohaa
set_option linter.unusedVariables false
set_option linter.unusedSimpArgs false
open Go.RowKit
section
variable {P : Program} {ops : Array Oper} {S : (Nat → Value) → Array Bool → World → Prop}
/-- An operation of no call: what it gives may differ from order to order. -/
theorem walkedE_run {F : Nat → Bool} {n j : Nat} {Qf : (Nat → Value) → Act → Prop} {o : Oper} {r : List Oper} {a : (Nat → Value) → Act} (hj : F j = true) (hgd : o.guard = none) (hs : ∀ cs c, o.op ≠ .select cs c)
    (hc : ∀ (v : Nat → Value) (l : Array Bool) (x : World), l.size = n → l.getD j false = false → AllMet ops l j → S v l x → ∃ u y, (execOp (a v).eval o).run P x = .ok (.value u) y ∧ S (updV v j u) (l.setIfInBounds j true) y)
    (hr : WalkedE P ops S F n Qf r (j + 1) (fun v => (a v).put o.dst (v j))) : WalkedE P ops S F n Qf (o :: r) j a :=
  .inl ⟨hj, fun v l b x K Q hb hz hn hm hS hK => by
    have hw : Region.wanted o (yielded ops b.tmps) = true := by unfold Region.wanted; rw [hgd]
    rw [if_pos hw]
    refine .inl ?_
    unfold Oper.wp
    obtain ⟨u, y, hrun, hy⟩ := hc v l x hz hn hm hS
    rw [agree_eval hb hs, hrun]
    exact hK u y hy, hr⟩
end
end Go.Proofs.Ytfiofjalpaeohaa
namespace Go.Proofs.Ytfiofjalpaeohaa
set_option linter.unusedVariables false
set_option linter.unusedSimpArgs false
open Go.RowKit
section
variable {X : Nat → Prop} {p frames ops : Nat} {pg : Int → Option (List Nat)} {w : World}
theorem get_none2 (h : IsMem w X p frames pg ops) (k : Int) (hk : hasB frames k = false) : Calls Try.prog 50 #[.pointer (some ⟨p, 0, none⟩), .int .i64 k] w (RetB w (.tuple #[.slice none 0 0, .int .i64 2])) := by
  have hh := has_calls h k
  rw [hk] at hh
  clear h hk
  go_enter Try.func50, Try.ntmps50
  go_wp2_with fail
  (with_reducible refine hh.mono ?_)
  rintro e w1 ⟨rfl, hb1⟩
  go_wp2
  go_ret2
  exact ⟨rfl, hb1⟩
theorem get_page2 (h : IsMem w X p frames pg ops) (k : Int) (hk : hasB frames k = true) : Calls Try.prog 50 #[.pointer (some ⟨p, 0, none⟩), .int .i64 k] w
    (fun e w' => ∃ g c, e = .returned (.tuple #[.slice (some ⟨g, 0, none⟩) 4096 c, .int .i64 0]) ∧ Row w' w.heap.size g c (pageOf pg k) ∧ Old w w') := by
  have hh := has_calls h k
  rw [hk] at hh
  have H := Lib.hid h
  have hl := pageOf_length h k
  have HL := Lib.hid hl
  clear h hk hl
  go_enter Try.func50, Try.ntmps50
  go_wp2_with fail
  (with_reducible refine hh.mono ?_)
  rintro e w1 ⟨rfl, hb1⟩
  have hpg := page_calls (mem_old H.out hb1) k
  have HO := Lib.hid hb1
  clear hh hb1
  go_wp2_with fail
  (with_reducible refine hpg.mono ?_)
  rintro e w2 ⟨g, c, rfl, hrow, hO2⟩
  have hcl := clone_calls ⟨g, 0, none⟩ (pageOf pg k) c w2 (row_bytes hrow) (by rw [HL.out]; decide) (by rw [HL.out]; decide)
  rw [HL.out] at hcl
  have HO2 := Lib.hid (old_then HO.out hO2)
  clear hpg hrow hO2
  go_wp2_with fail
  (with_reducible refine hcl.mono ?_)
  rintro e w3 ⟨g2, c2, rfl, hrow2, hO3⟩
  have HF := Lib.hid (And.intro hrow2 (old_then HO2.out hO3))
  clear hcl hrow2 hO3
  go_wp2
  go_ret2
  refine ⟨_, _, rfl, ?_, HF.out.2⟩
  have hsz := HO2.out.size
  refine ⟨⟨HF.out.1.1.1, ?_⟩, HF.out.1.2⟩
  rcases HF.out.1.1.2 with h' | ⟨g', cap', cur, h', hb, rest⟩
  · exact .inl h'
  · exact .inr ⟨g', cap', cur, h', by omega, rest⟩
theorem set_none2 (h : IsMem w X p frames pg ops) (k : Int) (v : Value) (hk : hasB frames k = false) : Calls Try.prog 54 #[.pointer (some ⟨p, 0, none⟩), .int .i64 k, v] w (RetB w (.int .i64 2)) := by
  have hh := has_calls h k
  rw [hk] at hh
  clear h hk
  go_enter Try.func54, Try.ntmps54
  go_wp2_with fail
  (with_reducible refine hh.mono ?_)
  rintro e w1 ⟨rfl, hb1⟩
  go_wp2
  go_ret
  exact ⟨rfl, hb1⟩
theorem set_arg2 (h : IsMem w X p frames pg ops) (k : Int) (ad : Option Addr) (n c : Nat) (hk : hasB frames k = true) (hn : n ≠ 4096) (hn63 : n ≤ maxLen) : Calls Try.prog 54 #[.pointer (some ⟨p, 0, none⟩), .int .i64 k, .slice ad n c] w (RetB w (.int .i64 1)) := by
  have hh := has_calls h k
  rw [hk] at hh
  have hnb : ((n : Int) != 4096) = true := by rw [bne_iff_ne]; omega
  have hn9 : n ≤ 9223372036854775807 := hn63
  clear h hk hn hn63
  go_enter Try.func54, Try.ntmps54
  go_wp2_with fail
  (with_reducible refine hh.mono ?_)
  rintro e w1 ⟨rfl, hb1⟩
  go_wp2
  go_ret
  exact ⟨rfl, hb1⟩
set_option maxHeartbeats 1000000 in
theorem set_ok2 (h : IsMem w X p frames pg ops) (hX : ∀ b, X b → b < w.heap.size) (k : Int) (a : Addr) (c : Nat) (l : List Nat) (hk : hasB frames k = true) (hB : Bytes w (some a) c l) (hl : l.length = 4096) :
    Calls Try.prog 54 #[.pointer (some ⟨p, 0, none⟩), .int .i64 k, .slice (some a) 4096 c] w (RetMem w X p frames (.int .i64 0) (updP pg k (some l)) ops) := by
  have hh := has_calls h k
  rw [hk] at hh
  have H := Lib.hid h
  have HB := Lib.hid hB
  have HL := Lib.hid hl
  clear h hk hB hl
  go_enter Try.func54, Try.ntmps54
  go_wp2_with fail
  (with_reducible refine hh.mono ?_)
  rintro e w1 ⟨rfl, hb1⟩
  have hO0 := old_drew hb1
  have hm1 := mem_old H.out hO0
  obtain ⟨g, cap, w2, hrow, hO2, hcl⟩ := clone_fix a l c w1.drew (bytes_old HB.out hO0) (by rw [HL.out]; decide) (by rw [HL.out]; decide)
  rw [HL.out] at hcl
  have hm2 := mem_old hm1 hO2
  have hge := (row_parts hrow).1
  have hsz : w.heap.size ≤ w1.drew.heap.size := hO0.size
  obtain ⟨m, f, n, k1, k2, k3, k4, k5, k6, k7, k8⟩ := id hm1
  have cA : w1.drew.cell? ⟨p, 1, none⟩ = some (.map (some m)) := by rw [cell_of k1]; rfl
  have cB : w2.cell? ⟨p, 1, none⟩ = some (.map (some m)) := by rw [cell_of (keep_old hO2 k1)]; rfl
  have hmsz := isMap_lt k3
  have hpsz := lt_of_block k1
  have hgm : ∀ m2, w2.cell? ⟨p, 1, none⟩ = some (.map (some m2)) → g ≠ m2 := by
    intro m2 hm2
    rw [cB] at hm2
    have : m = m2 := by simpa using hm2
    omega
  obtain ⟨m', c1', w3, hput, hm3, hO3⟩ := mem_page hm2 k l _ g cap hrow HL.out (fun f => by have := hX _ f; omega) (by omega) hgm
  have hmm : m = m' := by rw [cB] at c1'; simpa using c1'
  subst hmm
  have HF := Lib.hid (And.intro hm3 (((Only.of_below (old_then hO0 hO2)).mono fun b _ f => f.elim).trans hO3 : Only (fun b => ¬ X b) w w3))
  clear k1 k2 k3 k4 k5 k6 k7 k8 hm1 hO0 hmsz hpsz hh hm2 hge hsz c1' hm3 hO3 hrow hO2 hgm
  go_wp2_with fail
  refine wp_region_staged (S := StageS 6 w1.drew w2) 7 (by kernel_rfl) (by kernel_rfl) (by kernel_rfl) (by decide) rfl ?_
  (apply walkedS_cons; (focus (intro l9 wS hz hn hS; have hS9 := stage_other 0 (by decide) hS; have c9 := stage_cell hS cA cB; clear hS; go_wp2; exact ⟨rfl, rfl, hS9⟩)); rfl; (try simp only [Act.put, List.setIfInBounds_toArray, List.set_cons_succ, List.set_cons_zero]))
  (apply walkedS_cons; (focus (intro l9 wS hz hn hS; have hS9 := stage_other 1 (by decide) hS; have c9 := stage_cell hS cA cB; clear hS; go_wp2; exact ⟨rfl, rfl, hS9⟩)); rfl; (try simp only [Act.put, List.setIfInBounds_toArray, List.set_cons_succ, List.set_cons_zero]))
  (apply walkedS_cons; (focus (intro l9 wS hz hn hS; have hS9 := stage_other 2 (by decide) hS; have c9 := stage_cell hS cA cB; clear hS; go_wp2; exact ⟨rfl, rfl, hS9⟩)); rfl; (try simp only [Act.put, List.setIfInBounds_toArray, List.set_cons_succ, List.set_cons_zero]))
  (apply walkedS_cons; (focus (intro l9 wS hz hn hS; have hS9 := stage_other 3 (by decide) hS; have c9 := stage_cell hS cA cB; clear hS; go_wp2; exact ⟨rfl, rfl, hS9⟩)); rfl; (try simp only [Act.put, List.setIfInBounds_toArray, List.set_cons_succ, List.set_cons_zero]))
  (apply walkedS_cons; (focus (intro l9 wS hz hn hS; have hS9 := stage_other 4 (by decide) hS; have c9 := stage_cell hS cA cB; clear hS; go_wp2; exact ⟨rfl, rfl, hS9⟩)); rfl; (try simp only [Act.put, List.setIfInBounds_toArray, List.set_cons_succ, List.set_cons_zero]))
  (apply walkedS_cons; (focus (intro l9 wS hz hn hS; have hS9 := stage_other 5 (by decide) hS; have c9 := stage_cell hS cA cB; clear hS; go_wp2; exact ⟨rfl, rfl, hS9⟩)); rfl; (try simp only [Act.put, List.setIfInBounds_toArray, List.set_cons_succ, List.set_cons_zero]))
  apply walkedS_cons
  · intro l9 wS hz hn hS
    obtain rfl := stage_before hn hS
    clear hS
    go_wp2_with (go_at_call 86; refine hcl.mono ?_; rintro e w9 ⟨rfl, rfl⟩)
    exact ⟨rfl, rfl, stage_done hz (by decide)⟩
  · rfl
  apply walkedS_nil
  intro l9 wS hz hall hS
  obtain rfl := stage_after (hall 6 (by decide)) hS
  clear hS
  show wpList _ _ _ [_] _ _
  go_wp2
  go_ret
  exact ⟨rfl, HF.out.1, HF.out.2⟩
theorem zero_none2 (h : IsMem w X p frames pg ops) (k : Int) (hk : hasB frames k = false) : Calls Try.prog 60 #[.pointer (some ⟨p, 0, none⟩), .int .i64 k] w (RetB w (.int .i64 2)) := by
  have hh := has_calls h k
  rw [hk] at hh
  clear h hk
  go_enter Try.func60, Try.ntmps60
  go_wp2_with fail
  (with_reducible refine hh.mono ?_)
  rintro e w1 ⟨rfl, hb1⟩
  go_wp2
  go_ret
  exact ⟨rfl, hb1⟩
theorem zero_ok2 (h : IsMem w X p frames pg ops) (k : Int) (hk : hasB frames k = true) : Calls Try.prog 60 #[.pointer (some ⟨p, 0, none⟩), .int .i64 k] w (RetMem w X p frames (.int .i64 0) (updP pg k none) ops) := by
  have hh := has_calls h k
  rw [hk] at hh
  have H := Lib.hid h
  clear h hk
  go_enter Try.func60, Try.ntmps60
  go_wp2_with fail
  (with_reducible refine hh.mono ?_)
  rintro e w1 ⟨rfl, hb1⟩
  obtain ⟨m, c1, w2, hdel, hm2, hO2⟩ := mem_zero (mem_old H.out hb1) k
  have HF := Lib.hid (And.intro hm2 (((Only.of_below hb1).mono fun b _ f => f.elim).trans hO2 : Only (fun b => ¬ X b) w w2))
  clear hm2 hO2 hb1 hh
  go_wp2
  go_ret
  exact ⟨rfl, HF.out.1, HF.out.2⟩
/-- Is each byte 0? -/
def allZero (l : List Nat) : Bool := l.all (· == 0)
set_option maxRecDepth 100000 in
set_option maxHeartbeats 1000000 in
theorem clear_calls (h : IsMem w X p frames pg ops) (k : Int) : Calls Try.prog 53 #[.pointer (some ⟨p, 0, none⟩), .int .i64 k] w (RetB w (.bool (hasB frames k && allZero (pageOf pg k)))) := by
  have hh := has_calls h k
  have hl := pageOf_length h k
  cases hk : hasB frames k with
  | false =>
    rw [hk] at hh
    rw [Bool.false_and]
    clear h hk hl
    go_enter Try.func53, Try.ntmps53
    go_wp2_with fail
    (with_reducible refine hh.mono ?_)
    rintro e w1 ⟨rfl, hb1⟩
    go_wp2
    go_ret
    exact ⟨rfl, hb1⟩
  | true =>
    rw [hk] at hh
    rw [Bool.true_and]
    have H := Lib.hid h
    cases hp : pg k with
    | none =>
      have e : allZero (pageOf pg k) = true := by
        unfold pageOf allZero
        rw [hp]
        refine List.all_eq_true.2 (fun x hx => ?_)
        have : x = 0 := List.eq_of_mem_replicate hx
        rw [this]
        rfl
      rw [e]
      have HP := Lib.hid hp
      clear h hk hl e hp
      go_enter Try.func53, Try.ntmps53
      go_wp2_with fail
      (with_reducible refine hh.mono ?_)
      rintro e w1 ⟨rfl, hb1⟩
      obtain ⟨m, f, n, k1, k2, k3, k4, k5, k6, k7, k8⟩ := mem_old H.out hb1
      have c1 : w1.cell? ⟨p, 1, none⟩ = some (.map (some m)) := by rw [cell_of k1]; rfl
      have hlk := map_get_none (P := Try.prog) (t := 106) Try.underlying106 Try.underlying3 (zero_bytes w1) k3 (k7 k HP.out)
      clear k1 k2 k3 k4 k5 k6 k7 k8
      go_wp2
      go_loop [18] (fun i => i = .int .i64 0) (fun _ => 0)
      case atStart => rfl
      case round =>
      obtain rfl := hrel
      go_wp2
      go_ret
      exact ⟨rfl, hb1⟩
    | some l =>
      have hpl : pageOf pg k = l := by unfold pageOf; rw [hp]; rfl
      rw [hpl] at hl ⊢
      have HP := Lib.hid hp
      have HL := Lib.hid hl
      obtain ⟨B, hB⟩ : ∃ B, allZero l = B := ⟨_, rfl⟩
      rw [hB]
      have HB := Lib.hid hB
      clear h hk hl hp hpl hB
      go_enter Try.func53, Try.ntmps53
      go_wp2_with fail
      (with_reducible refine hh.mono ?_)
      rintro e w1 ⟨rfl, hb1⟩
      obtain ⟨m, f, n, k1, k2, k3, k4, k5, k6, k7, k8⟩ := mem_old H.out hb1
      obtain ⟨v, hv, g, c, rfl, b1, b2, b3, b4, b5⟩ := k8 k l HP.out
      have c1 : w1.cell? ⟨p, 1, none⟩ = some (.map (some m)) := by rw [cell_of k1]; rfl
      have hlk := map_get (P := Try.prog) (t := 106) Try.underlying106 Try.underlying3 k3 hv
      have HRow := Lib.hid b2
      clear k1 k2 k3 k4 k5 k6 k7 k8 hv b1 b2 b3 b4 b5
      go_wp2
      go_loop [18] (fun i => ∃ j : Nat, j ≤ 4096 ∧ i = .int .i64 j ∧ ∀ q : Nat, q < j → l[q]? = some 0) (fun i => (4096 - intOf i).toNat)
      case atStart => exact ⟨0, by omega, rfl, fun q hq => absurd hq (Nat.not_lt_zero _)⟩
      case round =>
      obtain ⟨j, hj, rfl, hz⟩ := hrel
      have HZ := Lib.hid hz
      clear hz
      by_cases hj2 : j < 4096
      · obtain ⟨x, hx⟩ : ∃ x, l[j]? = some x := ⟨_, List.getElem?_eq_getElem (by rw [HL.out]; exact hj2)⟩
        have cx := row_cell HRow.out hx
        have HX := Lib.hid hx
        clear hx
        by_cases hx0 : x = 0
        · subst hx0
          go_wp2
          go_round
          case rel => exact ⟨j + 1, by omega, by go_num, fun q hq => by
            by_cases e : q = j
            · rw [e]; exact HX.out
            · exact HZ.out q (by omega)⟩
          case measure => (simp [intOf]) <;> omega
        · have hb : ((x : Int) != 0) = true := by rw [bne_iff_ne]; omega
          have hB2 : B = false := by
            rw [← HB.out]
            unfold allZero
            rw [Bool.eq_false_iff]
            intro f
            have := List.all_eq_true.1 f x (List.mem_of_getElem? HX.out)
            simp at this
            exact hx0 this
          subst hB2
          clear hx0
          go_wp2
          go_ret
          exact ⟨rfl, hb1⟩
      · obtain rfl : j = 4096 := by omega
        have hB2 : B = true := by
          rw [← HB.out]
          unfold allZero
          rw [List.all_eq_true]
          intro x hx
          obtain ⟨q, hq⟩ := List.mem_iff_getElem?.1 hx
          have hq2 : q < 4096 := by
            have := (List.getElem?_eq_some_iff.1 hq).1
            rw [HL.out] at this
            exact this
          have := HZ.out q hq2
          rw [hq] at this
          simp at this
          simp [this]
        subst hB2
        go_wp2
        go_ret
        exact ⟨rfl, hb1⟩
theorem same_calls (h : IsMem w X p frames pg ops) (a b : Int) : Calls Try.prog 55 #[.pointer (some ⟨p, 0, none⟩), .int .i64 a, .int .i64 b] w (RetB w (.bool (hasB frames a && hasB frames b && decide (pageOf pg a = pageOf pg b)))) := by
  have ha := fun x (hx : Old w x) => has_calls (mem_old h hx) a
  have hb := fun x (hx : Old w x) => has_calls (mem_old h hx) b
  have pa := fun x (hx : Old w x) => page_calls (mem_old h hx) a
  have pb := fun x (hx : Old w x) => page_calls (mem_old h hx) b
  have la := pageOf_length h a
  have lb := pageOf_length h b
  have hq := fun x ga ca gb cb (h1 : Bytes x (some ⟨ga, 0, none⟩) ca (pageOf pg a)) (h2 : Bytes x (some ⟨gb, 0, none⟩) cb (pageOf pg b)) => equal_calls ⟨ga, 0, none⟩ ⟨gb, 0, none⟩ (pageOf pg a) (pageOf pg b) ca cb x h1 h2
  simp only [la, lb] at hq
  generalize hasB frames a = A at *
  generalize hasB frames b = B at *
  generalize decide (pageOf pg a = pageOf pg b) = E at *
  have HB := Lib.hid hb
  have HPA := Lib.hid pa
  have HPB := Lib.hid pb
  have HQ := Lib.hid hq
  have hA0 := ha w (old_refl _)
  clear h ha hb pa pb la lb hq
  cases A with
  | false =>
    go_enter Try.func55, Try.ntmps55
    go_wp2_with fail
    (with_reducible refine hA0.mono ?_)
    rintro e w1 ⟨rfl, hO1⟩
    go_wp2
    go_ret
    exact ⟨rfl, hO1⟩
  | true =>
    go_enter Try.func55, Try.ntmps55
    go_wp2_with fail
    (with_reducible refine hA0.mono ?_)
    rintro e w1 ⟨rfl, hO1⟩
    have hB1 := HB.out _ hO1
    clear hA0
    go_wp2_with fail
    (with_reducible refine hB1.mono ?_)
    rintro e w2 ⟨rfl, hO2⟩
    have hO2 := old_then hO1 hO2
    clear hB1 hO1
    cases B with
    | false =>
      go_wp2
      go_ret
      exact ⟨rfl, hO2⟩
    | true =>
      have p1 := HPA.out _ hO2
      have HO2 := Lib.hid hO2
      clear hO2
      go_wp2_with fail
      (with_reducible refine p1.mono ?_)
      rintro e w3 ⟨ga, ca, rfl, hra, hO3⟩
      have hO3' := old_then HO2.out hO3
      have p2 := HPB.out _ hO3'
      have HRA := Lib.hid hra
      have HO3 := Lib.hid hO3'
      clear p1 hra hO3 hO3'
      go_wp2_with fail
      (with_reducible refine p2.mono ?_)
      rintro e w4 ⟨gb, cb, rfl, hrb, hO4⟩
      have p3 := HQ.out w4 ga ca gb cb (bytes_old (row_bytes HRA.out) hO4) (row_bytes hrb)
      have HO4 := Lib.hid (old_then HO3.out hO4)
      clear p2 hrb hO4
      go_wp2_with fail
      (with_reducible refine p3.mono ?_)
      rintro e w5 ⟨rfl, hO5⟩
      have HO5 := Lib.hid (old_then HO4.out hO5)
      clear p3 hO5
      go_wp2
      go_ret
      exact ⟨rfl, HO5.out⟩
end
theorem old_stepM {F : Nat → Prop} {w x y : World} (h : Old w x) (ho : Only F x y) (hF : ∀ b, F b → w.heap.size ≤ b) : Old w y :=
  Only.to_below ((Only.of_below h).step ho (fun b hb f => by have := hF b f; omega))
end Go.Proofs.Ytfiofjalpaeohaa
namespace Go.Proofs.Ytfiofjalpaeohaa
set_option linter.unusedVariables false
set_option linter.unusedSimpArgs false
open Go.RowKit
theorem getD5_ne (l : Array Bool) (j k : Nat) (h : j ≠ k) : (l.setIfInBounds j true).getD k false = l.getD k false := by
  simp [Array.getD_eq_getD_getElem?, Array.getElem?_setIfInBounds_ne h]
theorem getD5_eq (l : Array Bool) (j : Nat) (h : j < l.size) : (l.setIfInBounds j true).getD j false = true := by
  simp [Array.getD_eq_getD_getElem?, h]
theorem own_strong {w : World} {B : Nat} {e : TypeId} {s n c : Nat} {ad : Option Addr} {xs : List Value} (h : w.ownsRow 0 e s (.slice ad n c) n xs) (hb : ∀ z off, ad = some ⟨z, off, none⟩ → B ≤ z) : w.ownsRow B e s (.slice ad n c) n xs := by
  refine ⟨h.1, ?_⟩
  rcases h.2 with h' | ⟨g, cap, cur, h', _, rest⟩
  · exact .inl h'
  · refine .inr ⟨g, cap, cur, h', hb g 0 ?_, rest⟩
    simp only [Value.slice.injEq] at h'
    exact h'.1
/-- A row of n cells that the call has made. -/
def Made5 (w x : World) (u : Value) (K : List (Nat × Nat)) : Prop := ∃ d cc, u = .slice d K.length cc ∧ x.ownsRow w.heap.size 146 2 (.slice d K.length cc) K.length (flatC c5 K)
/-- What holds between the operations. -/
structure CutS (w : World) (L : List (Nat × Nat)) (i : Nat) (v : Nat → Value) (l : Array Bool) (x : World) : Prop where
  old : Old w x
  d8 : l.getD 8 false = true → l.getD 1 false = true
  d16 : l.getD 16 false = true → l.getD 8 false = true
  m1 : l.getD 1 false = true → l.getD 8 false = false → Made5 w x (v 1) []
  m8 : l.getD 8 false = true → l.getD 16 false = false → Made5 w x (v 8) (L.take i)
  m16 : l.getD 16 false = true → Made5 w x (v 16) (L.take i ++ L.drop (i + 1))
section
variable {w x : World} {L : List (Nat × Nat)} {i : Nat} {v : Nat → Value} {l : Array Bool}
theorem made5_old {y : World} {u : Value} {K : List (Nat × Nat)} (h : Made5 w x u K) (ho : Old x y) : Made5 w y u K := by
  obtain ⟨d, cc, e, h'⟩ := h
  exact ⟨d, cc, e, own_old h' ho⟩
theorem cutS_start : CutS w L i v (Array.replicate 20 false) w.drew := ⟨old_drew (old_refl w), by simp, by simp, by simp, by simp, by simp⟩
theorem cutS_other (h : CutS w L i v l x) (j : Nat) (h1 : j ≠ 1) (h8 : j ≠ 8) (h16 : j ≠ 16) : CutS w L i v (l.setIfInBounds j true) x := by
  refine ⟨h.old, ?_, ?_, ?_, ?_, ?_⟩
  · rw [getD5_ne _ _ _ h8, getD5_ne _ _ _ h1]; exact h.d8
  · rw [getD5_ne _ _ _ h16, getD5_ne _ _ _ h8]; exact h.d16
  · rw [getD5_ne _ _ _ h1, getD5_ne _ _ _ h8]; exact h.m1
  · rw [getD5_ne _ _ _ h8, getD5_ne _ _ _ h16]; exact h.m8
  · rw [getD5_ne _ _ _ h16]; exact h.m16
theorem cutS_one (h : CutS w L i v l x) (hl : l.size = 20) (h1 : l.getD 1 false = false) : CutS w L i (updV v 1 (.slice (some ⟨x.heap.size, 0, none⟩) 0 0)) (l.setIfInBounds 1 true) (x.alloc (.cells #[] 146)) := by
  have n8 : l.getD 8 false ≠ true := fun e => by have := h.d8 e; rw [h1] at this; cases this
  have n16 : l.getD 16 false ≠ true := fun e => n8 (h.d16 e)
  refine ⟨old_alloc h.old _, ?_, ?_, ?_, ?_, ?_⟩
  · rw [getD5_ne _ _ _ (by decide)]; exact fun e => absurd e n8
  · rw [getD5_ne _ _ _ (by decide)]; exact fun e => absurd e n16
  · intro _ _
    rw [updV_same]
    refine ⟨some ⟨x.heap.size, 0, none⟩, 0, rfl, ?_⟩
    exact own_strong (own_weak (World.ownsRow_lit x #[] 0 (Nat.le_refl _) (by decide) rfl)) (fun z off e => by cases e; exact h.old.size)
  · rw [getD5_ne _ _ _ (by decide)]; exact fun e => absurd e n8
  · rw [getD5_ne _ _ _ (by decide)]; exact fun e => absurd e n16
theorem c5_one (K : List (Nat × Nat)) : ∀ u ∈ flatC c5 K, u.oneCell' = true := by
  induction K with
  | nil => intro u hu; cases hu
  | cons p t ih =>
    intro u hu
    simp only [flatC, c5, List.cons_append, List.nil_append, List.mem_cons] at hu
    rcases hu with rfl | rfl | hu
    · rfl
    · rfl
    · exact ih u hu
/-- An append to a row that the call has made. -/
theorem made5_append {u : Value} {K N : List (Nat × Nat)} (hO : Old w x) (hM : Made5 w x u K) (a : Addr) (cc : Nat) (hnews : ∀ j u, (flatC c5 N)[j]? = some u → x.cell? (a.add j) = some u) (hlim : K.length + N.length ≤ 1000000) :
    ∃ u' y, (Builtin.append_ #[101, 101] 101 #[u, .slice (some a) N.length cc]).run Try.prog x = .ok u' y ∧ Made5 w y u' (K ++ N) ∧ Old w y := by
  obtain ⟨d, c1, rfl, ho⟩ := hM
  have hlow : ∀ z off, d = some ⟨z, off, none⟩ → w.heap.size ≤ z := fun z off e => by
    rcases ho.2 with ⟨h', _⟩ | ⟨g, cap, cur, h', hb, _⟩
    · simp only [Value.slice.injEq] at h'
      rw [e] at h'; cases h'.1
    · simp only [Value.slice.injEq] at h'
      rw [e] at h'
      have := h'.1
      simp only [Option.some.injEq, Addr.mk.injEq] at this
      rw [this.1]; exact hb
  obtain ⟨d', c', y, hrun, ho', hOn, hfr⟩ := row5_append (own_weak ho) a N.length cc (flatC c5 N) (flatC_length c5_len N) hnews (c5_one N) hlim
  have hll : (K ++ N).length = K.length + N.length := List.length_append
  refine ⟨_, y, hrun, ⟨d', c', by rw [hll], ?_⟩, old_stepM hO hOn (fun b e => hlow b 0 e)⟩
  rw [hll, flatC_append]
  refine own_strong ho' (fun z off e => ?_)
  rcases hfr z off e with h' | h'
  · exact hlow z 0 h'
  · exact Nat.le_trans hO.size h'
theorem cutS_two (h : CutS w L i v l x) (hl : l.size = 20) (h1 : l.getD 1 false = true) (h8 : l.getD 8 false = false) (a : Addr) (cc : Nat) (hi : i ≤ L.length) (hnews : ∀ j u, (flatC c5 (L.take i))[j]? = some u → x.cell? (a.add j) = some u) (hlim : L.length ≤ 200000) :
    ∃ u y, (Builtin.append_ #[101, 101] 101 #[v 1, .slice (some a) i cc]).run Try.prog x = .ok u y ∧ CutS w L i (updV v 8 u) (l.setIfInBounds 8 true) y := by
  have hlt : (L.take i).length = i := by rw [List.length_take]; omega
  obtain ⟨u, y, hrun, hM, hO⟩ := made5_append h.old (h.m1 h1 h8) a cc hnews (by simp only [List.length_nil]; omega)
  rw [hlt] at hrun
  have n16 : l.getD 16 false ≠ true := fun e => by have := h.d16 e; rw [h8] at this; cases this
  refine ⟨u, y, hrun, hO, ?_, ?_, ?_, ?_, ?_⟩
  · intro _; rw [getD5_ne _ _ _ (by decide)]; exact h1
  · rw [getD5_ne _ _ _ (by decide)]; exact fun e => absurd e n16
  · rw [getD5_eq _ _ (by omega)]; exact fun _ e => by cases e
  · intro _ _; rw [updV_same]; exact hM
  · rw [getD5_ne _ _ _ (by decide)]; exact fun e => absurd e n16
theorem cutS_three (h : CutS w L i v l x) (hl : l.size = 20) (h8 : l.getD 8 false = true) (h16 : l.getD 16 false = false) (a : Addr) (cc : Nat) (hnews : ∀ j u, (flatC c5 (L.drop (i + 1)))[j]? = some u → x.cell? (a.add j) = some u) (hlim : L.length ≤ 200000) :
    ∃ u y, (Builtin.append_ #[101, 101] 101 #[v 8, .slice (some a) (L.drop (i + 1)).length cc]).run Try.prog x = .ok u y ∧ CutS w L i (updV v 16 u) (l.setIfInBounds 16 true) y := by
  obtain ⟨u, y, hrun, hM, hO⟩ := made5_append h.old (h.m8 h8 h16) a cc hnews (by rw [List.length_take, List.length_drop]; omega)
  refine ⟨u, y, hrun, hO, ?_, ?_, ?_, ?_, ?_⟩
  · rw [getD5_ne _ _ _ (by decide), getD5_ne _ _ _ (by decide)]; exact h.d8
  · intro _; rw [getD5_ne _ _ _ (by decide)]; exact h8
  · intro _ e; rw [getD5_ne _ _ _ (by decide), h8] at e; cases e
  · rw [getD5_eq _ _ (by omega)]; exact fun _ e => by cases e
  · intro _; rw [updV_same]; exact hM
end
end Go.Proofs.Ytfiofjalpaeohaa
namespace Go.Proofs.Ytfiofjalpaeohaa
set_option linter.unusedVariables false
set_option linter.unusedSimpArgs false
open Go.RowKit
theorem exec_append {P : Program} {w : World} {o : Oper} {ev : Operand → Value} (s x : Operand) (t : TypeId)
    (ho : o.op = .call { callee := .builtin .append, args := #[s, x], argTypes := #[t, t] }) (u v : Value) (hs : ev s = u) (hx : ev x = v) {v' : Value} {w' : World}
    (hrun : (Builtin.append_ #[t, t] o.type #[u, v]).run P w = .ok v' w') : (execOp ev o).run P w = .ok (.value v') w' := by
  simp [execOp, ho, resolve, invoke, builtin, hs, hx, hrun, Result.andThen]
section
variable {w x y : World} {q c n ops : Nat} {ad : Option Addr} {L : List (Nat × Nat)}
set_option maxHeartbeats 8000000 in
set_option maxRecDepth 100000 in
theorem r5set_cut (h : IsR5 w q ad c n ops L) (a i pb : Nat) (hp : L[i]? = some (a, pb)) :
    Calls Try.prog 89 #[.pointer (some ⟨q, 0, none⟩), .int .u64 (a : Nat), .int .u8 0] w (fun e y => e = .returned (.tuple #[]) ∧ R5To w q ad n ops (L.take i ++ L.drop (i + 1)) y) := by
  have n512 : (L.length : Int) ≤ 200000 := by have := h.lim; omega
  have H := Lib.hid h
  have hil : i < L.length := (List.getElem?_eq_some_iff.1 hp).1
  have HP := Lib.hid hp
  have hsp := (split5 h.good hp).1
  have hlater : ∀ k pa pb, k < i → L[k]? = some (pa, pb) → pa ≠ a := fun k pa pb' hk hkp => by
    refine hsp (pa, pb') (List.mem_of_getElem? (i := k) ?_)
    rw [List.getElem?_take, if_pos hk]; exact hkp
  have HL := Lib.hid hlater
  clear h hp hsp hlater
  go_enter Try.func89, Try.ntmps89
  go_wp2
  go_loop [6] (fun s6 => ∃ k : Nat, k ≤ i ∧ s6 = .int .i64 (k : Nat)) (fun s6 => i + 1 - (intOf s6).toNat)
  case atStart => exact ⟨0, by omega, rfl⟩
  case round =>
    obtain ⟨k, hk, rfl⟩ := hrel
    have hT := H.out
    obtain ⟨k0, z0, zz⟩ := of_block hT.hq
    have hlt : k < L.length := by omega
    have i1 : (k : Int) < L.length := by omega
    rcases r5_slice hT with ⟨_, _, h0⟩ | ⟨g, hg, hgq, hc, hcm, hgs⟩
    · rw [h0] at hlt; exact absurd hlt (Nat.not_lt_zero _)
    by_cases hki : k = i
    · subst hki
      have hc0 : w.cell? ⟨g, k * 2, none⟩ = some (.int .u64 (a : Nat)) := r5_cell hT hg HP.out 0 _ rfl
      subst hg
      have HQ := Lib.hid hT.hq
      have HI := Lib.hid (And.intro (Nat.le_of_lt hlt) hT.lim)
      have hall : ∀ x, Old w x → ∀ (j : Nat) (u : Value), (flatC c5 L)[j]? = some u → x.cell? ⟨g, j, none⟩ = some u := fun x hO j u hu => own_cell (own_old hT.hL hO) rfl j hu
      have hsplit : flatC c5 L = flatC c5 (L.take k) ++ ((a, pb) |> c5) ++ flatC c5 (L.drop (k + 1)) := by
        conv => lhs; rw [(split5 hT.good HP.out).2.2]
        rw [flatC_append]; simp [flatC]
      have htl : (flatC c5 (L.take k)).length = k * 2 := by rw [flatC_length c5_len, List.length_take]; omega
      have HNa : Hid (∀ x, Old w x → ∀ (j : Nat) (u : Value), (flatC c5 (L.take k))[j]? = some u → x.cell? ((⟨g, 0, none⟩ : Addr).add j) = some u) := Lib.hid fun x hO j u hu => by
        rw [add_eq _ _ rfl]
        have := hall x hO j u (by rw [hsplit, List.append_assoc, List.getElem?_append_left (List.getElem?_eq_some_iff.1 hu).1]; exact hu)
        simpa using this
      obtain ⟨o9, h9⟩ : ∃ o9, (c = k + 1 → o9 = 0) ∧ (c ≠ k + 1 → o9 = (k + 1) * 2) := by
        by_cases hck : c = k + 1
        · exact ⟨0, fun _ => rfl, fun e => absurd hck e⟩
        · exact ⟨_, fun e => absurd e hck, fun _ => rfl⟩
      have H9 := Lib.hid h9
      have HNb : Hid (∀ x, Old w x → ∀ (j : Nat) (u : Value), (flatC c5 (L.drop (k + 1)))[j]? = some u → x.cell? ((⟨g, o9, none⟩ : Addr).add j) = some u) := Lib.hid fun x hO j u hu => by
        by_cases hck : c = k + 1
        · rw [List.drop_eq_nil_of_le (by omega)] at hu; simp [flatC] at hu
        rw [h9.2 hck]
        rw [add_eq _ _ rfl]
        have h2 : (flatC c5 (L.take k) ++ ((a, pb) |> c5)).length = (k + 1) * 2 := by rw [List.length_append, htl]; show k * 2 + 2 = _; omega
        refine hall x hO ((k + 1) * 2 + j) u ?_
        rw [hsplit, List.getElem?_append_right (by omega), h2, Nat.add_sub_cancel_left]; exact hu
      have HDl : Hid ((L.drop (k + 1)).length = L.length - (k + 1)) := Lib.hid List.length_drop
      have HT := Lib.hid hT
      have cmi : (c : Int) ≤ 9223372036854775807 := by unfold maxLen at hcm; omega
      have ci : (L.length : Int) ≤ (c : Int) := by omega
      have ki : (k : Int) + 1 ≤ (L.length : Int) := by omega
      clear hk hlt hT hc hall hsplit htl hcm h9
      go_upto_region 5 with (fail)
      refine wp_region_freesE (S := CutS w L k) (fun j => j == 1 || (j == 8 || j == 16)) 19 (by kernel_rfl) (by kernel_rfl) (by kernel_rfl) (by decide) (fun _ => undef) cutS_start ?_
      refine walkedE_cons (.pointer (some ⟨q, 0, none⟩)) rfl (fun v => ?_) ?_
      · intro l9 wS hz hn hm hS
        have hS9 := cutS_other hS 0 (by decide) (by decide) (by decide)
        obtain ⟨k9, -, -⟩ := of_block (keep_old hS.old HQ.out)
        clear hS hm
        go_wp2
        all_goals exact ⟨rfl, by kernel_rfl, hS9⟩
      (try simp only [Act.put, List.setIfInBounds_toArray, List.set_cons_succ, List.set_cons_zero])
      refine walkedE_run rfl rfl (by intro cs c h; cases h) (fun v l9 x hz hn hm hS => ?_) ?_
      · exact ⟨_, _, by kernel_rfl, cutS_one hS hz hn⟩
      (try simp only [Act.put, List.setIfInBounds_toArray, List.set_cons_succ, List.set_cons_zero])
      refine walkedE_cons (.pointer (some ⟨q, 0, none⟩)) rfl (fun v => ?_) ?_
      · intro l9 wS hz hn hm hS
        have hS9 := cutS_other hS 2 (by decide) (by decide) (by decide)
        obtain ⟨k9, -, -⟩ := of_block (keep_old hS.old HQ.out)
        clear hS hm
        go_wp2
        all_goals exact ⟨rfl, by kernel_rfl, hS9⟩
      (try simp only [Act.put, List.setIfInBounds_toArray, List.set_cons_succ, List.set_cons_zero])
      refine walkedE_cons (.pointer (some ⟨q, 0, none⟩)) rfl (fun v => ?_) ?_
      · intro l9 wS hz hn hm hS
        have hS9 := cutS_other hS 3 (by decide) (by decide) (by decide)
        obtain ⟨k9, -, -⟩ := of_block (keep_old hS.old HQ.out)
        clear hS hm
        go_wp2
        all_goals exact ⟨rfl, by kernel_rfl, hS9⟩
      (try simp only [Act.put, List.setIfInBounds_toArray, List.set_cons_succ, List.set_cons_zero])
      refine walkedE_cons (.pointer (some ⟨q, 1, none⟩)) rfl (fun v => ?_) ?_
      · intro l9 wS hz hn hm hS
        have hS9 := cutS_other hS 4 (by decide) (by decide) (by decide)
        obtain ⟨k9, -, -⟩ := of_block (keep_old hS.old HQ.out)
        clear hS hm
        go_wp2
        all_goals exact ⟨rfl, by kernel_rfl, hS9⟩
      (try simp only [Act.put, List.setIfInBounds_toArray, List.set_cons_succ, List.set_cons_zero])
      refine walkedE_cons (.slice (some ⟨g, 0, none⟩) L.length c) rfl (fun v => ?_) ?_
      · intro l9 wS hz hn hm hS
        have hS9 := cutS_other hS 5 (by decide) (by decide) (by decide)
        obtain ⟨k9, -, -⟩ := of_block (keep_old hS.old HQ.out)
        clear hS hm
        go_wp2
        all_goals exact ⟨rfl, by kernel_rfl, hS9⟩
      (try simp only [Act.put, List.setIfInBounds_toArray, List.set_cons_succ, List.set_cons_zero])
      refine walkedE_cons (.int .i64 (k : Nat)) rfl (fun v => ?_) ?_
      · intro l9 wS hz hn hm hS
        have hS9 := cutS_other hS 6 (by decide) (by decide) (by decide)
        obtain ⟨k9, -, -⟩ := of_block (keep_old hS.old HQ.out)
        clear hS hm
        go_wp2
        all_goals exact ⟨rfl, by kernel_rfl, hS9⟩
      (try simp only [Act.put, List.setIfInBounds_toArray, List.set_cons_succ, List.set_cons_zero])
      refine walkedE_cons (.slice (some ⟨g, 0, none⟩) k c) rfl (fun v => ?_) ?_
      · intro l9 wS hz hn hm hS
        have hS9 := cutS_other hS 7 (by decide) (by decide) (by decide)
        obtain ⟨k9, -, -⟩ := of_block (keep_old hS.old HQ.out)
        clear hS hm
        go_wp2
        all_goals exact ⟨rfl, by kernel_rfl, hS9⟩
      (try simp only [Act.put, List.setIfInBounds_toArray, List.set_cons_succ, List.set_cons_zero])
      refine walkedE_run rfl rfl (by intro cs c h; cases h) (fun v l9 x hz hn hm hS => ?_) ?_
      · have h1 : l9.getD 1 false = true := hm _ rfl { on := 1, ground := Ground.data } (by first | decide | simp) (by first | rfl | decide)
        obtain ⟨u, y, hrun, hy⟩ := cutS_two hS hz h1 hn ⟨g, 0, none⟩ c HI.out.1 (HNa.out x hS.old) HI.out.2
        exact ⟨u, y, exec_append _ _ _ rfl _ _ rfl rfl hrun, hy⟩
      (try simp only [Act.put, List.setIfInBounds_toArray, List.set_cons_succ, List.set_cons_zero])
      refine walkedE_cons (.pointer (some ⟨q, 0, none⟩)) rfl (fun v => ?_) ?_
      · intro l9 wS hz hn hm hS
        have hS9 := cutS_other hS 9 (by decide) (by decide) (by decide)
        obtain ⟨k9, -, -⟩ := of_block (keep_old hS.old HQ.out)
        clear hS hm
        go_wp2
        all_goals exact ⟨rfl, by kernel_rfl, hS9⟩
      (try simp only [Act.put, List.setIfInBounds_toArray, List.set_cons_succ, List.set_cons_zero])
      refine walkedE_cons (.pointer (some ⟨q, 0, none⟩)) rfl (fun v => ?_) ?_
      · intro l9 wS hz hn hm hS
        have hS9 := cutS_other hS 10 (by decide) (by decide) (by decide)
        obtain ⟨k9, -, -⟩ := of_block (keep_old hS.old HQ.out)
        clear hS hm
        go_wp2
        all_goals exact ⟨rfl, by kernel_rfl, hS9⟩
      (try simp only [Act.put, List.setIfInBounds_toArray, List.set_cons_succ, List.set_cons_zero])
      refine walkedE_cons (.pointer (some ⟨q, 1, none⟩)) rfl (fun v => ?_) ?_
      · intro l9 wS hz hn hm hS
        have hS9 := cutS_other hS 11 (by decide) (by decide) (by decide)
        obtain ⟨k9, -, -⟩ := of_block (keep_old hS.old HQ.out)
        clear hS hm
        go_wp2
        all_goals exact ⟨rfl, by kernel_rfl, hS9⟩
      (try simp only [Act.put, List.setIfInBounds_toArray, List.set_cons_succ, List.set_cons_zero])
      refine walkedE_cons (.slice (some ⟨g, 0, none⟩) L.length c) rfl (fun v => ?_) ?_
      · intro l9 wS hz hn hm hS
        have hS9 := cutS_other hS 12 (by decide) (by decide) (by decide)
        obtain ⟨k9, -, -⟩ := of_block (keep_old hS.old HQ.out)
        clear hS hm
        go_wp2
        all_goals exact ⟨rfl, by kernel_rfl, hS9⟩
      (try simp only [Act.put, List.setIfInBounds_toArray, List.set_cons_succ, List.set_cons_zero])
      refine walkedE_cons (.int .i64 (k : Nat)) rfl (fun v => ?_) ?_
      · intro l9 wS hz hn hm hS
        have hS9 := cutS_other hS 13 (by decide) (by decide) (by decide)
        obtain ⟨k9, -, -⟩ := of_block (keep_old hS.old HQ.out)
        clear hS hm
        go_wp2
        all_goals exact ⟨rfl, by kernel_rfl, hS9⟩
      (try simp only [Act.put, List.setIfInBounds_toArray, List.set_cons_succ, List.set_cons_zero])
      refine walkedE_cons (.int .i64 ((k : Int) + 1)) rfl (fun v => ?_) ?_
      · intro l9 wS hz hn hm hS
        have hS9 := cutS_other hS 14 (by decide) (by decide) (by decide)
        obtain ⟨k9, -, -⟩ := of_block (keep_old hS.old HQ.out)
        clear hS hm
        go_wp2
        all_goals exact ⟨rfl, by kernel_rfl, hS9⟩
      (try simp only [Act.put, List.setIfInBounds_toArray, List.set_cons_succ, List.set_cons_zero])
      refine walkedE_cons (.slice (some ⟨g, o9, none⟩) (L.length - (k + 1)) (c - (k + 1))) rfl (fun v => ?_) ?_
      · intro l9 wS hz hn hm hS
        have hS9 := cutS_other hS 15 (by decide) (by decide) (by decide)
        obtain ⟨k9, -, -⟩ := of_block (keep_old hS.old HQ.out)
        clear hS hm
        by_cases hck : c = k + 1
        · obtain rfl := H9.out.1 hck
          subst hck
          go_wp2
          all_goals exact ⟨rfl, by kernel_rfl, hS9⟩
        · obtain rfl := H9.out.2 hck
          go_wp2
          all_goals first | exact absurd rfl hck | exact ⟨rfl, by kernel_rfl, hS9⟩
      (try simp only [Act.put, List.setIfInBounds_toArray, List.set_cons_succ, List.set_cons_zero])
      refine walkedE_run rfl rfl (by intro cs c h; cases h) (fun v l9 x hz hn hm hS => ?_) ?_
      · have h8 : l9.getD 8 false = true := hm _ rfl { on := 8, ground := Ground.data } (by first | decide | simp) (by first | rfl | decide)
        obtain ⟨u, y, hrun, hy⟩ := cutS_three hS hz h8 hn ⟨g, o9, none⟩ (c - (k + 1)) (HNb.out x hS.old) HI.out.2
        rw [HDl.out] at hrun
        exact ⟨u, y, exec_append _ _ _ rfl _ _ rfl rfl hrun, hy⟩
      (try simp only [Act.put, List.setIfInBounds_toArray, List.set_cons_succ, List.set_cons_zero])
      refine walkedE_cons (.pointer (some ⟨q, 0, none⟩)) rfl (fun v => ?_) ?_
      · intro l9 wS hz hn hm hS
        have hS9 := cutS_other hS 17 (by decide) (by decide) (by decide)
        obtain ⟨k9, -, -⟩ := of_block (keep_old hS.old HQ.out)
        clear hS hm
        go_wp2
        all_goals exact ⟨rfl, by kernel_rfl, hS9⟩
      (try simp only [Act.put, List.setIfInBounds_toArray, List.set_cons_succ, List.set_cons_zero])
      refine walkedE_cons (.pointer (some ⟨q, 1, none⟩)) rfl (fun v => ?_) ?_
      · intro l9 wS hz hn hm hS
        have hS9 := cutS_other hS 18 (by decide) (by decide) (by decide)
        obtain ⟨k9, -, -⟩ := of_block (keep_old hS.old HQ.out)
        clear hS hm
        go_wp2
        all_goals exact ⟨rfl, by kernel_rfl, hS9⟩
      (try simp only [Act.put, List.setIfInBounds_toArray, List.set_cons_succ, List.set_cons_zero])
      refine walkedE_nil (fun v l9 w9 hz hmet hS => ?_)
      obtain ⟨d9, c9, hv9, ho9⟩ := hS.m16 (hmet 16 (by decide))
      have hq9 := keep_old hS.old HQ.out
      have hO9 := hS.old
      have hlow : ∀ z off, d9 = some ⟨z, off, none⟩ → w.heap.size ≤ z := fun z off e => by
        rcases ho9.2 with ⟨h', _⟩ | ⟨g', cap', cur', h', hb', _⟩
        · simp only [Value.slice.injEq] at h'
          rw [e] at h'; cases h'.1
        · simp only [Value.slice.injEq] at h'
          rw [e] at h'
          have := h'.1
          simp only [Option.some.injEq, Addr.mk.injEq] at this
          rw [this.1]; exact hb'
      have hqs := lt_of_block HQ.out
      have hcut := cut5 HT.out.good HP.out
      have hnew := r5_new (ad' := d9) (c' := c9) (L' := L.take k ++ L.drop (k + 1)) HT.out hq9 (own_weak ho9) (fun z off e f => by have := hlow z off e; omega) hcut.1
        (by rw [List.length_append, List.length_take, List.length_drop]; have := HT.out.lim; omega)
        (fun p hp' => HT.out.at_ p (by rcases List.mem_append.1 hp' with h' | h'; exact List.mem_of_mem_take h'; exact List.mem_of_mem_drop h'))
      have hfin : Only (fun z => z = q ∨ (some (⟨g, 0, none⟩ : Addr)) = some ⟨z, 0, none⟩) w (w9.setCell ⟨q, 1, none⟩ (.slice d9 (L.take k ++ L.drop (k + 1)).length c9)) :=
        ((Only.of_below hO9).mono fun _ _ f => f.elim).setCell _ _ fun _ => .inl rfl
      have HF := Lib.hid (show R5To w q (some ⟨g, 0, none⟩) n ops (L.take k ++ L.drop (k + 1)) _ from ⟨d9, c9, hnew, fun z off e => .inr (hlow z off e), hfin⟩)
      obtain ⟨e0, e1, e2⟩ := of_block hq9
      rw [hv9]
      clear hS hmet hq9 hO9 hlow hqs hcut hnew hfin ho9 hv9
      go_wp2
      first | (refine bodyPost_end (v := .tuple #[]) (by first | rfl | kernel_rfl) rfl ?_) | (refine bodyPost_ret (v := .tuple #[]) (by first | rfl | kernel_rfl) rfl ?_)
      exact ⟨rfl, by have hf := HF.out; rw [List.length_append, List.length_take, List.length_drop] at hf; exact hf⟩
    · obtain ⟨p, hp⟩ : ∃ p, L[k]? = some p := ⟨_, List.getElem?_eq_getElem hlt⟩
      have hc0 : w.cell? ⟨g, k * 2, none⟩ = some (.int .u64 (p.1 : Nat)) := r5_cell hT hg hp 0 _ rfl
      have hpa := HL.out k p.1 p.2 (by omega) hp
      subst hg
      obtain ⟨pa, pb'⟩ := p
      have hlt2 : k < i := by omega
      have HLT := Lib.hid hlt2
      have hpb : ((pa : Int) == (a : Int)) = false := by rw [beq_eq_false_iff_ne]; simp only at hpa; omega
      clear hk hlt hlt2 hp hT hpa hki hil hcm
      go_wp2
      go_round
      case rel => exact ⟨k + 1, HLT.out, by simp⟩
      case measure => have := HLT.out; (simp [intOf]) <;> omega
end
end Go.Proofs.Ytfiofjalpaeohaa
namespace Go.Proofs.Ytfiofjalpaeohaa
set_option linter.unusedVariables false
set_option linter.unusedSimpArgs false
open Go.RowKit
section
variable {w x y : World} {X : Nat → Prop} {q n ops lim : Nat} {wd : Nat → Nat}
theorem isR_old (h : IsR w X q n wd ops lim) (ho : Old w x) : IsR x X q n wd ops lim := by
  obtain ⟨ad, c, L, h1, h2, h3, h4, h5⟩ := h
  exact ⟨ad, c, L, r5_old h1 ho, h2, h3, h4, h5⟩
theorem isR_only {G : Nat → Prop} (h : IsR w X q n wd ops lim) (ho : Only G w x) (hG : ∀ b, ¬ X b → ¬ G b) : IsR x X q n wd ops lim := by
  obtain ⟨ad, c, L, h1, h2, h3, h4, h5⟩ := h
  exact ⟨ad, c, L, r5_only h1 ho (hG q h2) (fun b off e => hG b (h3 b off e)), h2, h3, h4, h5⟩
theorem r5To_R {ad : Option Addr} {L' : List (Nat × Nat)} (h : R5To w q ad n ops L' y) (hX : ∀ b, X b → b < w.heap.size) (hq : ¬ X q) (ha : ∀ b off, ad = some ⟨b, off, none⟩ → ¬ X b) (hl : L'.length ≤ lim) (hw : ∀ a, look5 L' a = wd a) :
    IsR y X q n wd ops lim ∧ Only (fun b => ¬ X b) w y := by
  obtain ⟨ad', c', h1, h2, h3⟩ := h
  refine ⟨⟨ad', c', L', h1, hq, fun b off e hx => ?_, hl, hw⟩, h3.mono fun b _ e => ?_⟩
  · rcases h2 b off e with h | h
    · exact ha b 0 h hx
    · have := hX b hx; omega
  · rcases e with rfl | e
    · exact hq
    · exact ha b 0 e
theorem r5set_calls (h : IsR w X q n wd ops lim) (hX : ∀ b, X b → b < w.heap.size) (a b : Nat) (ha : a < n * 4096) (hb : b < 256) (hlim : lim + 1 ≤ 200000) :
    Calls Try.prog 89 #[.pointer (some ⟨q, 0, none⟩), .int .u64 (a : Nat), .int .u8 (b : Nat)] w (RetR w X q n (.tuple #[]) (fun x => if x = a then b else wd x) ops (lim + 1)) := by
  obtain ⟨ad, c, L, h1, h2, h3, h4, h5⟩ := h
  by_cases hno : ∀ p ∈ L, p.1 ≠ a
  · by_cases hb0 : b = 0
    · refine (r5set_none h1 a b hno hb0).mono ?_
      rintro e y ⟨rfl, ho⟩
      refine ⟨rfl, ⟨ad, c, L, r5_old h1 ho, h2, h3, by omega, fun x => ?_⟩, (Only.of_below ho).mono fun _ _ f => f.elim⟩
      show look5 L x = if x = a then b else wd x
      by_cases hx : x = a
      · rw [if_pos hx, hx, look5_none hno, hb0]
      · rw [if_neg hx, h5]
    · refine (r5set_add h1 a b hno hb0 hb ha (by omega)).mono ?_
      rintro e y ⟨rfl, ho⟩
      obtain ⟨k1, k2⟩ := r5To_R (lim := lim + 1) (wd := fun x => if x = a then b else wd x) ho hX h2 h3 (by rw [List.length_append]; simp only [List.length_cons, List.length_nil]; omega) (fun x => by rw [(add5 h1.good hno hb0 hb).2, h5])
      exact ⟨rfl, k1, k2⟩
  · have ⟨p, hp⟩ := Classical.not_forall.1 hno
    have ⟨hm, h7⟩ := Classical.not_imp.1 hp
    have hpa : p.1 = a := Classical.not_not.1 h7
    obtain ⟨i, hi⟩ := List.getElem?_of_mem hm
    obtain ⟨pa, pb⟩ := p
    simp only at hpa
    subst hpa
    by_cases hb0 : b = 0
    · subst hb0
      refine (r5set_cut h1 pa i pb hi).mono ?_
      rintro e y ⟨rfl, ho⟩
      obtain ⟨k1, k2⟩ := r5To_R (lim := lim + 1) (wd := fun x => if x = pa then 0 else wd x) ho hX h2 h3 (by rw [List.length_append, List.length_take, List.length_drop]; omega) (fun x => by rw [(cut5 h1.good hi).2, h5])
      exact ⟨rfl, k1, k2⟩
    · refine (r5set_put h1 pa b i pb hi hb0 hb).mono ?_
      rintro e y ⟨rfl, ho, hOn⟩
      refine ⟨rfl, ⟨ad, c, L.set i (pa, b), ho, h2, h3, by rw [List.length_set]; omega, fun x => ?_⟩, hOn.mono fun b _ e => h3 b 0 e⟩
      rw [(put5 h1.good hi hb0 hb).2, h5]
end
end Go.Proofs.Ytfiofjalpaeohaa
namespace Go.Proofs.Ytfiofjalpaeohaa
set_option linter.unusedVariables false
set_option linter.unusedSimpArgs false
open Go.RowKit
/-- The bytes behind k steps of Write. -/
def wr5 (wd : Nat → Nat) (addr v : Nat) : Nat → Nat → Nat
  | 0 => wd
  | k + 1 => fun x => if x = addr + k then v / 2 ^ (8 * k) % 256 else wr5 wd addr v k x
section
variable {w : World} {X : Nat → Prop} {q n ops lim : Nat} {wd : Nat → Nat}
set_option maxHeartbeats 2000000 in
theorem r5write_fail (h : IsR w X q n wd ops lim) (addr : Nat) (ha : addr < 18446744073709551616) (s : Int) (v : Nat) (he : placeE n addr s ≠ 0) :
    Calls Try.prog 57 #[.pointer (some ⟨q, 0, none⟩), .int .u64 (addr : Nat), .int .i64 s, .int .u64 (v : Nat)] w (RetB w (.int .i64 (placeE n addr s))) := by
  obtain ⟨ad, c, L, h1, -⟩ := h
  have hp := r5bad_calls h1 addr ha s
  generalize placeE n addr s = E at *
  have hb : (E != 0) = true := by simp [he]
  clear he h1
  go_enter Try.func57, Try.ntmps57
  go_wp2_with fail
  (with_reducible refine hp.mono ?_)
  rintro e w1 ⟨rfl, hb1⟩
  go_wp2
  go_ret
  exact ⟨rfl, hb1⟩
end
end Go.Proofs.Ytfiofjalpaeohaa
namespace Go.Proofs.Ytfiofjalpaeohaa
set_option linter.unusedVariables false
set_option linter.unusedSimpArgs false
open Go.RowKit
section
variable {w : World} {X : Nat → Prop} {q n ops lim : Nat} {wd : Nat → Nat}
/-- Another count. -/
theorem isR_ops (h : IsR w X q n wd ops lim) (o2 : Nat) : IsR (w.setCell ⟨q, 2, none⟩ (.int .i64 (o2 : Nat))) X q n wd o2 lim ∧ Only (fun b => ¬ X b) w (w.setCell ⟨q, 2, none⟩ (.int .i64 (o2 : Nat))) := by
  obtain ⟨ad, c, L, h1, h2, h3⟩ := h
  obtain ⟨k1, k2⟩ := r5_ops h1 o2
  exact ⟨⟨ad, c, L, k1, h2, h3⟩, k2.mono fun b _ e => by rw [e]; exact h2⟩
set_option maxHeartbeats 8000000 in
set_option maxRecDepth 100000 in
theorem r5write_ok (h : IsR w X q n wd ops lim) (hX : ∀ b, X b → b < w.heap.size) (addr : Nat) (ha : addr < 18446744073709551616) (s : Nat) (v : Nat) (hv : v < 18446744073709551616) (he : placeE n addr (s : Int) = 0) (ho : ops ≤ 1000000) (hlim : lim + 8 ≤ 200000) :
    Calls Try.prog 57 #[.pointer (some ⟨q, 0, none⟩), .int .u64 (addr : Nat), .int .i64 (s : Nat), .int .u64 (v : Nat)] w (RetR w X q n (.int .i64 0) (wr5 wd addr v s) (ops + 1) (lim + s)) := by
  obtain ⟨-, hf, s1, s8, hle⟩ := placeE_zero he
  obtain ⟨ad, c, L, h1, h2⟩ := h
  have hn : n ≤ 1048576 := h1.hn.2
  have hp : Calls Try.prog 88 #[.pointer (some ⟨q, 0, none⟩), .int .u64 (addr : Nat), .int .i64 (s : Nat)] w (RetB w (.int .i64 0)) := by
    have := r5bad_calls h1 addr ha (s : Int)
    rwa [he] at this
  have hadr : addr + s ≤ n * 4096 := by omega
  have hs8 : s ≤ 8 := by omega
  have hs8i : (s : Int) ≤ 8 := by omega
  have ho' : (ops : Int) ≤ 1000000 := by omega
  have H1 := Lib.hid h1
  have H2 := Lib.hid h2
  have HX := Lib.hid hX
  have HAd := Lib.hid (And.intro hadr (And.intro hlim hn))
  clear h1 h2 hX he hf s1 s8 hle hn hadr hlim ha
  go_enter Try.func57, Try.ntmps57
  go_wp2_with fail
  (with_reducible refine hp.mono ?_)
  rintro e w1 ⟨rfl, hb1⟩
  have h1 := r5_old H1.out hb1
  obtain ⟨c0, z0, zz⟩ := of_block h1.hq
  have hR : IsR w1 X q n wd ops lim := ⟨ad, c, L, h1, H2.out⟩
  have hR2 : IsR (w1.setCell ⟨q, 2, none⟩ (.int .i64 ((ops : Int) + 1))) X q n wd (ops + 1) lim := (isR_ops hR (ops + 1)).1
  have hO2 : Only (fun b => ¬ X b) w1 (w1.setCell ⟨q, 2, none⟩ (.int .i64 ((ops : Int) + 1))) := (isR_ops hR (ops + 1)).2
  have HO2 := Lib.hid (((Only.of_below hb1).mono fun _ _ f => f.elim : Only (fun b => ¬ X b) w w1).trans hO2)
  have HR2 := Lib.hid hR2
  clear hp h1 hR hR2 hO2 hb1 H1 H2
  go_wp2
  go_loopw [10] (fun s10 wx => ∃ i : Nat, i ≤ s ∧ s10 = .int .i64 (i : Nat) ∧ IsR wx X q n (wr5 wd addr v i) (ops + 1) (lim + i) ∧ Only (fun b => ¬ X b) w wx) (fun s10 _ => s - (intOf s10).toNat)
  case atStart => exact ⟨0, Nat.zero_le _, rfl, HR2.out, HO2.out⟩
  case round =>
    clear HR2 HO2 c0 z0 zz
    obtain ⟨i, hi, rfl, hR, hO⟩ := hrel
    by_cases his : i = s
    · subst his
      have HF := Lib.hid (And.intro hR hO)
      clear hR hO hi
      go_wp2
      go_ret
      exact ⟨rfl, HF.out.1, HF.out.2⟩
    · have hlt : i < s := by omega
      have hlti : (i : Int) < s := by omega
      have hcall := r5set_calls hR (fun b hb => Nat.lt_of_lt_of_le (HX.out b hb) hO.size) (addr + i) (v / 2 ^ (8 * i) % 256) (by have := HAd.out; omega) (Nat.mod_lt _ (by decide)) (by have := HAd.out; omega)
      have hbyte := byte_shift v i
      obtain ⟨A, hA⟩ : ∃ A, addr + i = A := ⟨_, rfl⟩
      have hnext : (fun x => if x = A then v / 2 ^ (8 * i) % 256 else wr5 wd addr v i x) = wr5 wd addr v (i + 1) := by rw [← hA]; rfl
      rw [hA, hnext] at hcall
      have e1 : IntKind.u64.wrap ((addr : Int) + (i : Int)) = (A : Int) := by have := HAd.out; rw [IntKind.wrap_u64]; omega
      have e2 : IntKind.u64.wrap (i : Int) = (i : Int) := by rw [IntKind.wrap_u64]; omega
      have HO := Lib.hid hO
      have HL := Lib.hid hlt
      generalize v / 2 ^ (8 * i) % 256 = bb at *
      clear hR hO hA hnext hi his hlt
      go_wp2_with fail
      (with_reducible refine hcall.mono ?_)
      rintro e w5 ⟨rfl, hR5, hO5⟩
      have H5 := Lib.hid (And.intro hR5 (HO.out.trans (hO5.mono fun _ _ f => f)))
      clear hcall hR5 hO5
      go_wp2
      go_roundw
      case rel => exact ⟨i + 1, HL.out, by simp, H5.out.1, H5.out.2⟩
      case measure => have := HL.out; (simp [intOf]) <;> omega
end
end Go.Proofs.Ytfiofjalpaeohaa
namespace Go.Proofs.Ytfiofjalpaeohaa
set_option linter.unusedVariables false
set_option linter.unusedSimpArgs false
open Go.RowKit
section
variable {w : World} {X : Nat → Prop} {q n ops lim c : Nat} {ad : Option Addr} {L : List (Nat × Nat)} {wd : Nat → Nat}
theorem made5_nil (w x : World) : Made5 w x (.slice none 0 0) [] := ⟨none, 0, rfl, World.ownsRow_nil _ _ _ _⟩
/-- A cell laid behind a row that the call has made. -/
theorem made5_one {x : World} {u : Value} {K : List (Nat × Nat)} (hO : Old w x) (hM : Made5 w x u K) (a b : Nat) (hlim : K.length + 1 ≤ 1000000) :
    ∃ u' y, (Builtin.append_ #[101, 101] 101 #[u, .slice (some ⟨x.heap.size, 0, none⟩) 1 1]).run Try.prog (x.alloc (.cells #[.int .u64 (a : Nat), .int .u8 (b : Nat)] 146)) = .ok u' y ∧ Made5 w y u' (K ++ [(a, b)]) ∧ Old w y :=
  made5_append (N := [(a, b)]) (old_alloc hO _) (made5_old hM (old_alloc (old_refl x) _)) ⟨x.heap.size, 0, none⟩ 1 (news_block x [.int .u64 (a : Nat), .int .u8 (b : Nat)] 146 x.heap.size rfl) hlim
theorem made5_slice {x : World} {u : Value} {K : List (Nat × Nat)} (hM : Made5 w x u K) : ∃ d cc, u = .slice d K.length cc := by
  obtain ⟨d, cc, rfl, -⟩ := hM
  exact ⟨d, cc, rfl⟩
theorem bytes_getD {l : List Nat} (h : ∀ x ∈ l, x < 256) (i : Nat) : l.getD i 0 < 256 := by
  rw [List.getD_eq_getElem?_getD]
  cases hi : l[i]? with
  | none => decide
  | some u => exact h u (List.mem_of_getElem? hi)
/-- A page struck out. -/
def out5 (L : List (Nat × Nat)) (f : Nat) : List (Nat × Nat) := L.filter (fun p => decide (p.1 / 4096 ≠ f))
theorem out5_succ {i f : Nat} {p : Nat × Nat} (h : L[i]? = some p) : out5 (L.take (i + 1)) f = if p.1 / 4096 = f then out5 (L.take i) f else out5 (L.take i) f ++ [p] := by
  unfold out5
  rw [take_filter_succ h]
  by_cases hp : p.1 / 4096 = f
  · rw [if_pos hp, if_pos hp, List.append_nil]
  · rw [if_neg hp, if_neg hp]
theorem out5_len (f : Nat) : (out5 L f).length ≤ L.length := List.length_filter_le ..
theorem cells5_len (f : Nat) (pg : Nat → Nat) (n : Nat) : (cells5 f pg n).length ≤ n := by
  induction n with
  | zero => exact Nat.le_refl _
  | succ n ih => rw [cells5_succ, List.length_append]; split <;> simp <;> omega
set_option maxHeartbeats 8000000 in
set_option maxRecDepth 100000 in
theorem r5setE_calls (h : IsR5 w q ad c n ops L) (k : Int) (pd : Option Addr) (pl pc : Nat) (hpl : pl ≤ maxLen) (he : hasB n k = false ∨ pl ≠ 4096) :
    Calls Try.prog 59 #[.pointer (some ⟨q, 0, none⟩), .int .i64 k, .slice pd pl pc] w (RetB w (.int .i64 (if hasB n k = false then 2 else 1))) := by
  have hh := r5has_calls h k
  have hl63 : pl ≤ 9223372036854775807 := hpl
  cases hb : hasB n k with
  | false =>
    rw [hb] at hh
    clear h he hb
    go_enter Try.func59, Try.ntmps59
    go_wp2_with fail
    (with_reducible refine hh.mono ?_)
    rintro e w1 ⟨rfl, hb1⟩
    go_wp2
    go_ret
    exact ⟨rfl, hb1⟩
  | true =>
    rw [hb] at hh
    have hne : ((pl : Int) != 4096) = true := by
      rw [bne_iff_ne]
      rcases he with e | e
      · rw [hb] at e; cases e
      · omega
    clear h he hb
    go_enter Try.func59, Try.ntmps59
    go_wp2_with fail
    (with_reducible refine hh.mono ?_)
    rintro e w1 ⟨rfl, hb1⟩
    go_wp2
    go_ret
    exact ⟨rfl, hb1⟩
set_option maxHeartbeats 8000000 in
set_option maxRecDepth 100000 in
theorem r5setL_calls (h : IsR5 w q ad c n ops L) (f : Nat) (hf : f < n) (pd : Option Addr) (pc : Nat) (P : List Nat) (hP : Bytes w pd pc P) (hPl : P.length = 4096) (hlim : L.length + (cells5 f (fun i => P.getD i 0) 4096).length ≤ 200000) :
    Calls Try.prog 59 #[.pointer (some ⟨q, 0, none⟩), .int .i64 (f : Nat), .slice pd 4096 pc] w (fun e y => e = .returned (.int .i64 0) ∧ R5To w q ad n ops (out5 L f ++ cells5 f (fun i => P.getD i 0) 4096) y) := by
  have hh := r5has_calls h (f : Int)
  have hbt : hasB n (f : Int) = true := by unfold hasB; simp; omega
  rw [hbt] at hh
  have n512 : (L.length : Int) ≤ 200000 := by have := h.lim; omega
  have hn := h.hn
  have hf20 : f ≤ 1048575 := by omega
  obtain ⟨pg, hpg⟩ : ∃ pg, (fun i => P.getD i 0) = pg := ⟨_, rfl⟩
  rw [hpg] at hlim ⊢
  have H := Lib.hid h
  have HP := Lib.hid (And.intro hP hPl)
  have HPG := Lib.hid (fun i => (congrFun hpg i : P.getD i 0 = pg i))
  clear hpg
  have HL := Lib.hid hlim
  have HN := Lib.hid (And.intro hf hn)
  clear h hP hPl hlim hbt hn hf
  go_enter Try.func59, Try.ntmps59
  go_wp2_with fail
  (with_reducible refine hh.mono ?_)
  rintro e w1 ⟨rfl, hb1⟩
  have HO1 := Lib.hid hb1
  clear hh hb1
  go_wp2
  go_loopw [7, 8] (fun s7 s8 wx => ∃ k : Nat, k ≤ L.length ∧ s8 = .int .i64 (k : Nat) ∧ Made5 w wx s7 (out5 (L.take k) f) ∧ Old w wx) (fun _ s8 _ => L.length - (intOf s8).toNat)
  case atStart => exact ⟨0, by omega, rfl, made5_nil _ _, HO1.out⟩
  case round =>
    clear HO1
    obtain ⟨k, hk, rfl, hM, hO⟩ := hrel
    have hT := r5_old H.out hO
    obtain ⟨k0, z0, zz⟩ := of_block hT.hq
    by_cases hkn : k = L.length
    · subst hkn
      rw [List.take_length] at hM
      have HM := Lib.hid hM
      have HO := Lib.hid hO
      clear hk hM hO hT
      go_wp2
      go_loopw [7, 9] (fun s7 s9 wx => ∃ i : Nat, i ≤ 4096 ∧ s9 = .int .i64 (i : Nat) ∧ Made5 w wx s7 (out5 L f ++ cells5 f pg i) ∧ Old w wx) (fun _ s9 _ => 4096 - (intOf s9).toNat)
      case atStart => exact ⟨0, by omega, rfl, by rw [show cells5 f pg 0 = [] from rfl, List.append_nil]; exact HM.out, HO.out⟩
      case round =>
        clear HM HO k0 z0 zz
        obtain ⟨i, hi, rfl, hM, hO⟩ := hrel
        by_cases hin : i = 4096
        · subst hin
          obtain ⟨d, cc, rfl, hown⟩ := hM
          have hq3 := keep_old hO H.out.hq
          have hlow : ∀ z off, d = some ⟨z, off, none⟩ → w.heap.size ≤ z := fun z off e => by
            rcases hown.2 with ⟨h', _⟩ | ⟨g, cap, cur, h', hb, _⟩
            · simp only [Value.slice.injEq] at h'
              rw [e] at h'; cases h'.1
            · simp only [Value.slice.injEq] at h'
              rw [e] at h'
              have := h'.1
              simp only [Option.some.injEq, Addr.mk.injEq] at this
              rw [this.1]; exact hb
          have hqs := lt_of_block H.out.hq
          obtain ⟨g1, g2⟩ := set5_step H.out.good f pg (fun i => by rw [← HPG.out]; exact bytes_getD (bytes_lt HP.out.1) i) 4096 (Nat.le_refl _)
          have hat : ∀ p ∈ out5 L f ++ cells5 f pg 4096, p.1 < n * 4096 := fun p hp => by
            rcases List.mem_append.1 hp with hp | hp
            · exact H.out.at_ p (List.mem_filter.1 hp).1
            · obtain ⟨i, h1, h2, h3⟩ := mem_cells5.1 hp
              rw [h3]; have := HN.out; simp only; omega
          have hnew := r5_new (ad' := d) (c' := cc) (L' := out5 L f ++ cells5 f pg 4096) H.out hq3 (own_weak hown) (fun b off e e' => by have := hlow b off e; omega) g1 (by have := HL.out; have := out5_len (L := L) f; rw [List.length_append]; omega) hat
          obtain ⟨K, hK⟩ : ∃ K, out5 L f ++ cells5 f pg 4096 = K := ⟨_, rfl⟩
          rw [hK] at hnew hown ⊢
          have HF : Hid (R5To w q ad n ops K (wr.setCell ⟨q, 1, none⟩ (.slice d K.length cc))) := Lib.hid ⟨d, cc, hnew, fun z off e => .inr (hlow z off e), ((Only.of_below hO).mono fun _ _ f => f.elim).setCell _ _ fun _ => .inl rfl⟩
          obtain ⟨e0, e1, e2⟩ := of_block hq3
          have HK := Lib.hid hK
          clear hq3 hlow hqs g1 g2 hat hnew hK hown hO hi
          go_wp2
          go_ret
          exact ⟨rfl, by rw [HK.out]; exact HF.out⟩
        · have hlt : i < 4096 := by omega
          have hlti : (i : Int) < 4096 := by omega
          obtain ⟨u, bb, off, hu, hu256, e, hbb, cB⟩ := bytes_at (bytes_old HP.out.1 hO) i (by rw [HP.out.2]; exact hlt)
          have hsucc := cells5_succ f pg i
          have hpu : pg i = u := by rw [← HPG.out, List.getD_eq_getElem?_getD, hu]; rfl
          rw [hpu] at hsucc
          have hle : (out5 L f).length + (cells5 f pg i).length + 1 ≤ 1000000 := by
            have h1 := out5_len (L := L) f
            have h2 := cells5_len f pg i
            have h3 := H.out.lim
            omega
          have ef : IntKind.u64.wrap (f : Int) = (f : Int) := by rw [IntKind.wrap_u64]; omega
          have ei : IntKind.u64.wrap (i : Int) = (i : Int) := by rw [IntKind.wrap_u64]; omega
          obtain ⟨A, hA⟩ : ∃ A, f * 4096 = A := ⟨_, rfl⟩
          obtain ⟨B, hB⟩ : ∃ B, A + i = B := ⟨_, rfl⟩
          have e3 : IntKind.u64.wrap ((f : Int) * 4096) = (A : Int) := by rw [IntKind.wrap_u64]; omega
          have e4 : IntKind.u64.wrap ((A : Int) + (i : Int)) = (B : Int) := by rw [IntKind.wrap_u64]; omega
          have HI := Lib.hid hlt
          by_cases hu0 : u = 0
          · rw [if_pos hu0, List.append_nil] at hsucc
            subst hu0
            rw [← hsucc] at hM
            have HMO := Lib.hid (And.intro hM hO)
            subst e
            clear hM hO hsucc hle hpu hu hu256 hbb hi hin hlt hA hB
            go_wp2
            go_roundw
            case rel => exact ⟨i + 1, HI.out, by simp, HMO.out.1, HMO.out.2⟩
            case measure => have := HI.out; (simp [intOf]) <;> omega
          · rw [if_neg hu0] at hsucc
            have e5 : ((u : Int) != 0) = true := by rw [bne_iff_ne]; omega
            rw [← List.length_append] at hle
            have hK : (out5 L f ++ cells5 f pg i) ++ [(B, u)] = out5 L f ++ cells5 f pg (i + 1) := by rw [List.append_assoc, ← hB, ← hA, ← hsucc]
            generalize out5 L f ++ cells5 f pg i = K at *
            obtain ⟨d, cc, rfl⟩ := made5_slice hM
            obtain ⟨u', y, hrun, hM', hO'⟩ := made5_one hO hM B u hle
            rw [hK] at hM'
            have HMO := Lib.hid (And.intro hM' hO')
            clear hK
            have HRun := Lib.hid hrun
            subst e
            clear hM hO hsucc hle hpu hu hu256 hbb hi hin hlt hA hB hM' hO' hrun hu0
            have hrun := HRun.out
            go_wp2_with (at_builtin; refine wpList_append_run rfl _ _ 101 rfl _ _ rfl rfl _ _ hrun ?_; clear hrun)
            go_roundw
            case rel => exact ⟨i + 1, HI.out, by simp, HMO.out.1, HMO.out.2⟩
            case measure => have := HI.out; (simp [intOf]) <;> omega
    · have hlt : k < L.length := by omega
      obtain ⟨p, hp⟩ : ∃ p, L[k]? = some p := ⟨_, List.getElem?_eq_getElem hlt⟩
      have hpa := H.out.at_ p (List.mem_of_getElem? hp)
      have i1 : (k : Int) < L.length := by omega
      rcases r5_slice hT with ⟨_, _, h0⟩ | ⟨g, hg, _, hc, _, _⟩
      · rw [h0] at hlt; exact absurd hlt (Nat.not_lt_zero _)
      have hc0 : wr.cell? ⟨g, k * 2, none⟩ = some (.int .u64 (p.1 : Nat)) := r5_cell hT hg hp 0 _ rfl
      have hc1 : wr.cell? ⟨g, k * 2 + 1, none⟩ = some (.int .u8 (p.2 : Nat)) := r5_cell hT hg hp 1 _ rfl
      have hol := out5_len (L := L.take k) f
      rw [List.length_take] at hol
      have hsucc := out5_succ (f := f) hp
      subst hg
      obtain ⟨pa, pb⟩ := p
      have hlim : (pa : Int) < 4294967296 := by have := HN.out; simp only at hpa; omega
      have ef : IntKind.u64.wrap (f : Int) = (f : Int) := by rw [IntKind.wrap_u64]; omega
      have HO := Lib.hid hO
      have HLT := Lib.hid hlt
      by_cases hpf : pa / 4096 = f
      · rw [if_pos hpf] at hsucc
        rw [← hsucc] at hM
        have HM := Lib.hid hM
        have e1 : (IntKind.u64.wrap ((pa : Int) / 4096) != (f : Int)) = false := by rw [bne_eq_false_iff_eq, IntKind.wrap_u64]; omega
        clear hk hO hlt hp hT hpa hM hsucc hol hlim hpf hkn
        go_wp2
        go_roundw
        case rel => exact ⟨k + 1, HLT.out, by simp, HM.out, HO.out⟩
        case measure => have := HLT.out; (simp [intOf]) <;> omega
      · rw [if_neg hpf] at hsucc
        obtain ⟨d, cc, rfl⟩ := made5_slice hM
        obtain ⟨u', y, hrun, hM', hO'⟩ := made5_one hO hM pa pb (by omega)
        rw [← hsucc] at hM'
        have HM := Lib.hid (And.intro hM' hO')
        have HRun := Lib.hid hrun
        have e1 : (IntKind.u64.wrap ((pa : Int) / 4096) != (f : Int)) = true := by rw [bne_iff_ne, IntKind.wrap_u64]; omega
        clear hk hO hlt hp hT hpa hM hsucc hol hlim hpf hM' hO' hrun hkn
        have hrun := HRun.out
        go_wp2_with (at_builtin; refine wpList_append_run rfl _ _ 101 rfl _ _ rfl rfl _ _ hrun ?_; clear hrun)
        go_roundw
        case rel => exact ⟨k + 1, HLT.out, by simp, HM.out.1, HM.out.2⟩
        case measure => have := HLT.out; (simp [intOf]) <;> omega
theorem r5page_calls (h : IsR w X q n wd ops lim) (hX : ∀ b, X b → b < w.heap.size) (f : Nat) (hf : f < n) (pd : Option Addr) (pc : Nat) (P : List Nat) (hP : Bytes w pd pc P) (hPl : P.length = 4096) (m : Nat) (hm : (cells5 f (fun i => P.getD i 0) 4096).length ≤ m) (hlim : lim + m ≤ 200000) :
    Calls Try.prog 59 #[.pointer (some ⟨q, 0, none⟩), .int .i64 (f : Nat), .slice pd 4096 pc] w (RetR w X q n (.int .i64 0) (fun x => if x / 4096 = f then P.getD (x % 4096) 0 else wd x) ops (lim + m)) := by
  obtain ⟨ad, c, L, h1, h2, h3, h4, h5⟩ := h
  refine (r5setL_calls h1 f hf pd pc P hP hPl (by omega)).mono ?_
  rintro e y ⟨rfl, ho⟩
  obtain ⟨k1, k2⟩ := r5To_R (lim := lim + m) (wd := fun x => if x / 4096 = f then P.getD (x % 4096) 0 else wd x) ho hX h2 h3 (by have := out5_len (L := L) f; rw [List.length_append]; omega) (fun x => by
    have := (set5 h1.good f (fun i => P.getD i 0) (fun i => bytes_getD (bytes_lt hP) i)).2 x
    rw [h5] at this
    exact this)
  exact ⟨rfl, k1, k2⟩
theorem r5pageE_calls (h : IsR w X q n wd ops lim) (k : Int) (pd : Option Addr) (pl pc : Nat) (hpl : pl ≤ maxLen) (he : hasB n k = false ∨ pl ≠ 4096) :
    Calls Try.prog 59 #[.pointer (some ⟨q, 0, none⟩), .int .i64 k, .slice pd pl pc] w (RetB w (.int .i64 (if hasB n k = false then 2 else 1))) := by
  obtain ⟨ad, c, L, h1, -⟩ := h
  exact r5setE_calls h1 k pd pl pc hpl he
end
end Go.Proofs.Ytfiofjalpaeohaa
namespace Go.Proofs.Ytfiofjalpaeohaa
set_option linter.unusedVariables false
set_option linter.unusedSimpArgs false
open Go.RowKit
/-- A page of bytes. -/
def pgOf (wd : Nat → Nat) (f : Nat) : List Nat := (List.range 4096).map (fun j => wd (f * 4096 + j))
theorem pgOf_length (wd : Nat → Nat) (f : Nat) : (pgOf wd f).length = 4096 := by simp [pgOf]
theorem pgOf_get (wd : Nat → Nat) (f j : Nat) (h : j < 4096) : (pgOf wd f)[j]? = some (wd (f * 4096 + j)) := by
  unfold pgOf
  rw [List.getElem?_map, List.getElem?_range h]; rfl
theorem pgOf_ext {l m : Nat → Nat} {f g : Nat} : pgOf l f = pgOf m g ↔ ∀ j, j < 4096 → l (f * 4096 + j) = m (g * 4096 + j) := by
  constructor
  · intro h j hj
    have := pgOf_get l f j hj
    rw [h, pgOf_get m g j hj] at this
    exact (Option.some.inj this).symm
  · intro h
    unfold pgOf
    exact List.map_congr_left fun j hj => h j (List.mem_range.1 hj)
theorem pgOf_set {l m : Nat → Nat} {f a b : Nat} (hf : a / 4096 = f) (h : ∀ x, m x = if x = a then b else l x) : (pgOf l f).set (a % 4096) b = pgOf m f := by
  refine List.ext_getElem? fun j => ?_
  rw [List.getElem?_set]
  by_cases hj : j < 4096
  · rw [pgOf_get m f j hj, pgOf_get l f j hj, h]
    by_cases e : a % 4096 = j
    · rw [if_pos e, if_pos (by rw [pgOf_length]; omega), if_pos (by omega)]
    · rw [if_neg e, if_neg (by omega)]
  · rw [List.getElem?_eq_none (by rw [pgOf_length]; omega), List.getElem?_eq_none (by rw [pgOf_length]; omega)]
    split
    · split
      · rw [pgOf_length] at *; omega
      · rfl
    · rfl
theorem pgOf_keep {l m : Nat → Nat} {f a b : Nat} (hf : ¬ a / 4096 = f) (h : ∀ x, m x = if x = a then b else l x) : pgOf m f = pgOf l f :=
  pgOf_ext.2 fun j hj => by rw [h, if_neg (by omega)]
theorem pgOf_zero (f : Nat) : pgOf (fun _ => 0) f = zeros4096 := by
  unfold pgOf zeros4096
  rw [List.map_const', List.length_range]
section
variable {w : World} {X : Nat → Prop} {q n ops lim c : Nat} {ad : Option Addr} {L : List (Nat × Nat)} {wd : Nat → Nat}
theorem zeros_getD (i : Nat) : zeros4096.getD i 0 = 0 := by
  unfold zeros4096
  rw [List.getD_eq_getElem?_getD, List.getElem?_replicate]
  split <;> rfl
set_option maxHeartbeats 2000000 in
theorem r5zero_calls (h : IsR w X q n wd ops lim) (hX : ∀ b, X b → b < w.heap.size) (f : Nat) (hf : f < n) (hlim : lim ≤ 200000) :
    Calls Try.prog 61 #[.pointer (some ⟨q, 0, none⟩), .int .i64 (f : Nat)] w (RetR w X q n (.int .i64 0) (fun x => if x / 4096 = f then 0 else wd x) ops lim) := by
  obtain ⟨w2, hmk, hrow, hO⟩ := make_page w
  have hcall := r5page_calls (isR_old h hO) (fun b hb => Nat.lt_of_lt_of_le (hX b hb) hO.size) f hf (some ⟨w.heap.size, 0, none⟩) 4096 zeros4096 (row_bytes hrow) zeros4096_length 0 (by rw [cells5_zero f (fun i _ => zeros_getD i)]; exact Nat.zero_le _) hlim
  have e : (fun x => if x / 4096 = f then zeros4096.getD (x % 4096) 0 else wd x) = (fun x => if x / 4096 = f then 0 else wd x) := by funext x; rw [zeros_getD]
  rw [e] at hcall
  have HO := Lib.hid hO
  clear h hX hrow hO e
  go_enter Try.func61, Try.ntmps61
  go_wp2_with fail
  (with_reducible refine hcall.mono ?_)
  rintro e w5 ⟨rfl, hR5, hO5⟩
  have HF : Hid (IsR w5 X q n (fun x => if x / 4096 = f then 0 else wd x) ops lim ∧ Only (fun b => ¬ X b) w w5) := Lib.hid ⟨hR5, ((Only.of_below HO.out).mono fun _ _ f => f.elim).trans hO5⟩
  clear hcall hR5 hO5
  go_wp2
  go_ret
  exact ⟨rfl, HF.out.1, HF.out.2⟩
set_option maxHeartbeats 2000000 in
theorem r5zeroE_calls (h : IsR w X q n wd ops lim) (k : Int) (hk : hasB n k = false) :
    Calls Try.prog 61 #[.pointer (some ⟨q, 0, none⟩), .int .i64 k] w (RetB w (.int .i64 2)) := by
  obtain ⟨w2, hmk, hrow, hO⟩ := make_page w
  have hcall := r5pageE_calls (isR_old h hO) k (some ⟨w.heap.size, 0, none⟩) 4096 4096 (by unfold maxLen; omega) (.inl hk)
  rw [if_pos hk] at hcall
  have HO := Lib.hid hO
  clear h hrow hO hk
  go_enter Try.func61, Try.ntmps61
  go_wp2_with fail
  (with_reducible refine hcall.mono ?_)
  rintro e w5 ⟨rfl, hO5⟩
  have HF := Lib.hid (old_then HO.out hO5)
  clear hcall hO5
  go_wp2
  go_ret
  exact ⟨rfl, HF.out⟩
set_option maxHeartbeats 2000000 in
theorem r5getE_calls (h : IsR w X q n wd ops lim) (k : Int) (hk : hasB n k = false) :
    Calls Try.prog 62 #[.pointer (some ⟨q, 0, none⟩), .int .i64 k] w (RetB w (.tuple #[.slice none 0 0, .int .i64 2])) := by
  obtain ⟨ad, c, L, h1, -⟩ := h
  have hh := r5has_calls h1 k
  rw [hk] at hh
  clear h1 hk
  go_enter Try.func62, Try.ntmps62
  go_wp2_with fail
  (with_reducible refine hh.mono ?_)
  rintro e w1 ⟨rfl, hb1⟩
  go_wp2
  go_ret2
  exact ⟨rfl, hb1⟩
set_option maxHeartbeats 8000000 in
set_option maxRecDepth 100000 in
theorem r5getL_calls (h : IsR5 w q ad c n ops L) (f : Nat) (hf : f < n) :
    Calls Try.prog 62 #[.pointer (some ⟨q, 0, none⟩), .int .i64 (f : Nat)] w (fun e y => ∃ g, e = .returned (.tuple #[.slice (some ⟨g, 0, none⟩) 4096 4096, .int .i64 0]) ∧ Row y w.heap.size g 4096 (pgOf (look5 L) f) ∧ Old w y) := by
  have hh := r5has_calls h (f : Int)
  have hbt : hasB n (f : Int) = true := by unfold hasB; simp; omega
  rw [hbt] at hh
  have n512 : (L.length : Int) ≤ 200000 := by have := h.lim; omega
  have hn := h.hn
  have hf20 : f ≤ 1048575 := by omega
  have H := Lib.hid h
  have HN := Lib.hid (And.intro hf hn)
  clear h hbt hn hf
  go_enter Try.func62, Try.ntmps62
  go_wp2_with fail
  (with_reducible refine hh.mono ?_)
  rintro e w1 ⟨rfl, hb1⟩
  obtain ⟨w2, hmk, hrow, hO⟩ := make_page w1
  have hlow := hb1.size
  have hO2 := old_then hb1 hO
  generalize w1.heap.size = g at *
  have HR : Hid (Row w2 w.heap.size g 4096 (pgOf (look5 (L.take 0)) f) ∧ Old w w2) := Lib.hid ⟨by
    rw [List.take_zero, show look5 ([] : List (Nat × Nat)) = fun _ => 0 from rfl, pgOf_zero]
    refine ⟨⟨hrow.1.1, ?_⟩, hrow.2⟩
    rcases hrow.1.2 with h' | ⟨g', cap, cur, h', h1, h2⟩
    · exact .inl h'
    · exact .inr ⟨g', cap, cur, h', Nat.le_trans hlow h1, h2⟩, hO2⟩
  clear hh hb1 hrow hO hlow hO2
  go_wp2
  go_loopw [7] (fun s7 wx => ∃ k : Nat, k ≤ L.length ∧ s7 = .int .i64 (k : Nat) ∧ Row wx w.heap.size g 4096 (pgOf (look5 (L.take k)) f) ∧ Old w wx) (fun s7 _ => L.length - (intOf s7).toNat)
  case atStart => exact ⟨0, by omega, rfl, HR.out.1, HR.out.2⟩
  case round =>
    clear HR hmk
    obtain ⟨k, hk, rfl, hM, hO⟩ := hrel
    have hT := r5_old H.out hO
    obtain ⟨k0, z0, zz⟩ := of_block hT.hq
    by_cases hkn : k = L.length
    · subst hkn
      rw [List.take_length] at hM
      have HF := Lib.hid (And.intro hM hO)
      clear hk hM hO hT
      go_wp2
      go_ret2
      exact ⟨g, rfl, HF.out.1, HF.out.2⟩
    · have hlt : k < L.length := by omega
      obtain ⟨p, hp⟩ : ∃ p, L[k]? = some p := ⟨_, List.getElem?_eq_getElem hlt⟩
      have hpa := H.out.at_ p (List.mem_of_getElem? hp)
      have hp8 := (H.out.good.2 p (List.mem_of_getElem? hp)).2
      have i1 : (k : Int) < L.length := by omega
      rcases r5_slice hT with ⟨_, _, h0⟩ | ⟨gg, hg, _, hc, _, _⟩
      · rw [h0] at hlt; exact absurd hlt (Nat.not_lt_zero _)
      have hc0 : wr.cell? ⟨gg, k * 2, none⟩ = some (.int .u64 (p.1 : Nat)) := r5_cell hT hg hp 0 _ rfl
      have hc1 : wr.cell? ⟨gg, k * 2 + 1, none⟩ = some (.int .u8 (p.2 : Nat)) := r5_cell hT hg hp 1 _ rfl
      have hsucc := take5_succ H.out.good hp
      subst hg
      obtain ⟨pa, pb⟩ := p
      simp only at hpa hp8 hsucc
      have hlim : (pa : Int) < 4294967296 := by have := HN.out; omega
      have ef : IntKind.u64.wrap (f : Int) = (f : Int) := by rw [IntKind.wrap_u64]; omega
      have HLT := Lib.hid hlt
      by_cases hpf : pa / 4096 = f
      · have e1 : (IntKind.u64.wrap ((pa : Int) / 4096) == (f : Int)) = true := by rw [beq_iff_eq, IntKind.wrap_u64]; omega
        have hset := row_set hM (pa % 4096) pb hp8
        rw [pgOf_set hpf hsucc] at hset
        have hOs := old_set hO (row_parts hM).1 (pa % 4096) (.int .u8 pb)
        obtain ⟨z, hz⟩ : ∃ z, (pgOf (look5 (L.take k)) f)[pa % 4096]? = some z := ⟨_, pgOf_get _ _ _ (Nat.mod_lt _ (by decide))⟩
        have cP := row_cell hM hz
        have fP := row_frozen hM (pa % 4096)
        have HS := Lib.hid (And.intro hset (old_drew hOs))
        obtain ⟨P, hP⟩ : ∃ P, pa % 4096 = P := ⟨_, rfl⟩
        rw [hP] at cP fP HS
        have e2 : (pa : Int) % 4096 = (P : Int) := by omega
        have e3 : P ≤ 4095 := by omega
        clear hk hO hlt hp hT hpa hM hsucc hlim hpf hkn hset hOs hz hP hp8
        go_wp2_with fail
        refine wp_region_tail (S := Is wr.drew) 18 (by kernel_rfl) (by kernel_rfl) (by kernel_rfl) (by decide) rfl ?_
        repeat (apply walked_cons; (first | exact gives_and rfl rfl rfl rfl | exact gives_or rfl rfl rfl rfl | (focus (intro wS hS; cases hS; go_wp2; exact ⟨rfl, rfl, rfl⟩; done)) | (focus (apply gives_guard; (focus (first | exact wanted_yes rfl rfl rfl | exact wanted_no rfl rfl rfl | exact wanted_yes2 rfl rfl rfl | exact wanted_no2 rfl rfl rfl)); (focus (intro hx9; (try simp only [Bool.not_eq_true', Bool.and_eq_true, Bool.not_not] at hx9); (try obtain ⟨hx9, hy9⟩ := hx9); (try subst hy9); (try subst hx9); (first | exact gives_and rfl rfl rfl rfl | exact gives_or rfl rfl rfl rfl | (intro wS hS; cases hS; go_wp2; exact ⟨rfl, rfl, rfl⟩; done))))))); rfl; (try simp only [Act.put, List.setIfInBounds_toArray, List.set_cons_succ, List.set_cons_zero]))
        apply walked_nil
        intro wS hS
        cases hS
        show wpList _ _ _ [_, _] _ _
        go_wp2
        go_roundw
        case rel => exact ⟨k + 1, HLT.out, by simp, HS.out.1, HS.out.2⟩
        case measure => have := HLT.out; (simp [intOf]) <;> omega
      · have e1 : (IntKind.u64.wrap ((pa : Int) / 4096) == (f : Int)) = false := by rw [beq_eq_false_iff_ne, IntKind.wrap_u64]; omega
        rw [← pgOf_keep hpf hsucc] at hM
        have HS := Lib.hid (And.intro hM hO)
        clear hk hO hlt hp hT hpa hM hsucc hlim hpf hkn hp8
        go_wp2
        go_roundw
        case rel => exact ⟨k + 1, HLT.out, by simp, HS.out.1, HS.out.2⟩
        case measure => have := HLT.out; (simp [intOf]) <;> omega
theorem r5get_calls (h : IsR w X q n wd ops lim) (f : Nat) (hf : f < n) :
    Calls Try.prog 62 #[.pointer (some ⟨q, 0, none⟩), .int .i64 (f : Nat)] w (fun e y => ∃ g, e = .returned (.tuple #[.slice (some ⟨g, 0, none⟩) 4096 4096, .int .i64 0]) ∧ Row y w.heap.size g 4096 (pgOf wd f) ∧ Old w y) := by
  obtain ⟨ad, c, L, h1, -, -, -, h5⟩ := h
  have := r5getL_calls h1 f hf
  rwa [show look5 L = wd from funext h5] at this
end
end Go.Proofs.Ytfiofjalpaeohaa
