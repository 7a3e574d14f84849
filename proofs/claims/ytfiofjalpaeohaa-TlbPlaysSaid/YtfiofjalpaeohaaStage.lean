/- A statement whose order is open, walked once in the order of the text: what holds of the world may hang on which operations have come. No function of the program stands here. -/
import Derived.Test.YtfiofjalpaeohaaSeq
namespace Go.Proofs.Ytfiofjalpaeohaa
set_option linter.unusedVariables false
set_option linter.unusedSimpArgs false
open Go.RowKit

section
variable {P : Program} {ops : Array Oper} {S : Array Bool → World → Prop} {Q : Exit → Act → World → Prop}

/-- Operation number j (of n) comes to the frame a', wherever it comes up. -/
def GivesS (P : Program) (ops : Array Oper) (S : Array Bool → World → Prop) (n j : Nat) (o : Oper) (a a' : Act) : Prop :=
  ∀ (l : Array Bool) (w : World), l.size = n → l.getD j false = false → S l w → wpList P ops (Fin (S (l.setIfInBounds j true)) a') [o] a w

/-- The operations one by one, in the order of the text. -/
def WalkedS (P : Program) (ops : Array Oper) (S : Array Bool → World → Prop) (n : Nat) (Q : Act → Prop) : List Oper → Nat → Act → Prop
  | [], _, a => Q a
  | o :: r, j, a => ∃ a', GivesS P ops S n j o a a' ∧ a'.defers = a.defers ∧ WalkedS P ops S n Q r (j + 1) a'

/-- What an operation gives at one frame it gives at every frame that agrees on what it looks at. -/
theorem gives_vals {n j : Nat} {o : Oper} {a a' : Act} (h : GivesS P ops S n j o a a') (hd : a'.defers = a.defers) (hs : ∀ cs c, o.op ≠ .select cs c) {l0 : Array Bool} {w0 : World} (z0 : l0.size = n) (n0 : l0.getD j false = false) (h0 : S l0 w0) :
    ∃ v, a' = a.put o.dst v ∧ (∃ w1, S (l0.setIfInBounds j true) w1) ∧ ∀ (l : Array Bool) (b : Act) (w : World) (K : Act → World → Prop) (Q : Exit → Act → World → Prop), Agree ops o a b → l.size = n → l.getD j false = false → S l w → (∀ w', S (l.setIfInBounds j true) w' → K (b.put o.dst v) w') →
      (if Region.wanted o (yielded ops b.tmps) then o.wp P b w K Q ∨ (o.asks P b w ∧ LetsOut Q) else K (b.put o.dst undef) w) := by
  by_cases hw : Region.wanted o (yielded ops a.tmps) = true
  · -- what it comes to in a world of S
    have key : ∀ l w, l.size = n → l.getD j false = false → S l w → o.wp P a w (fun a'' w' => a'' = a' ∧ S (l.setIfInBounds j true) w') (fun _ _ _ => False) := by
      intro l w hz hn hS
      have h1 := h l w hz hn hS
      unfold wpList at h1
      rw [if_pos hw] at h1
      rcases h1 with h1 | ⟨_, a1, w1, h1, _⟩
      · unfold Oper.wp at h1 ⊢
        generalize (execOp a.eval o).run P w = r at h1 ⊢
        cases r with
        | ok n w' =>
          cases n with
          | value v => exact h1.2
          | skip => exact h1.2
          | defer d => exact h1.2
          | enter f args =>
            simp only [Oper.upon] at h1 ⊢
            refine Calls.mono h1 fun e w'' he => ?_
            cases e with
            | returned v => exact he.2
            | panicked c => exact absurd he.1 (by simp)
            | outgrown => obtain ⟨_, _, h2, _⟩ := he; exact absurd h2 (by simp)
          | row row args =>
            simp only [Oper.upon] at h1 ⊢
            exact Rows.mono h1 fun v w'' he => he.2
          | _ => exact (h1 : False).elim
        | halt x w' =>
          cases x <;> simp only [Oper.upon] at h1 ⊢ <;> first | exact h1 | exact absurd h1.1 (by simp)
      · exact absurd h1 (by simp)
    have nodefer : ∀ d, ({ a with defers := d :: a.defers } : Act).put o.dst undef ≠ a' := by
      intro d e
      have h1 := congrArg Act.defers e
      rw [hd] at h1
      have h2 : (({ a with defers := d :: a.defers } : Act).put o.dst undef).defers = d :: a.defers := by cases o.dst <;> rfl
      rw [h2] at h1
      have := congrArg List.length h1
      simp at this
    -- the value
    have hv : ∃ v, a' = a.put o.dst v ∧ ∃ w1, S (l0.setIfInBounds j true) w1 := by
      have k0 := key l0 w0 z0 n0 h0
      unfold Oper.wp at k0
      generalize (execOp a.eval o).run P w0 = r at k0
      cases r with
      | ok n w' =>
        cases n with
        | value v => exact ⟨v, k0.1.symm, _, k0.2⟩
        | skip => exact ⟨undef, k0.1.symm, _, k0.2⟩
        | defer d => exact absurd k0.1 (nodefer d)
        | enter f args =>
          simp only [Oper.upon] at k0
          obtain ⟨e, w'', fr, hr, _⟩ := k0 []
          cases e with
          | returned v => exact ⟨v, hr.1.symm, _, hr.2⟩
          | panicked c => exact hr.elim
          | outgrown => obtain ⟨_, _, h2⟩ := hr; exact h2.elim
        | row row args =>
          simp only [Oper.upon] at k0
          obtain ⟨v, w'', hr, _⟩ := k0 default []
          exact ⟨v, hr.1.symm, _, hr.2⟩
        | _ => exact (k0 : False).elim
      | halt x w' => cases x <;> simp only [Oper.upon] at k0
    obtain ⟨v, hv, hw1⟩ := hv
    refine ⟨v, hv, hw1, fun l b w K Q hab hz hn hS hK => ?_⟩
    rw [agree_wanted hab, if_pos hw]
    refine .inl ?_
    have k := key l w hz hn hS
    unfold Oper.wp at k ⊢
    rw [agree_eval hab hs]
    have same : ∀ u, a.put o.dst u = a' → b.put o.dst u = b.put o.dst v := fun u hu => put_same hab.1 (hu.trans hv)
    generalize (execOp a.eval o).run P w = r at k ⊢
    cases r with
    | ok n w' =>
      cases n with
      | value u => show K _ _; rw [same u k.1]; exact hK _ k.2
      | skip => show K _ _; rw [same undef k.1]; exact hK _ k.2
      | defer d => exact absurd k.1 (nodefer d)
      | enter f args =>
        simp only [Oper.upon] at k ⊢
        refine Calls.mono k fun e w'' he => ?_
        cases e with
        | returned u => show K _ _; rw [same u he.1]; exact hK _ he.2
        | panicked c => exact he.elim
        | outgrown => obtain ⟨_, _, h2⟩ := he; exact h2.elim
      | row row args =>
        simp only [Oper.upon] at k ⊢
        refine Rows.mono k fun u w'' he => ?_
        rw [same u he.1]; exact hK _ he.2
      | _ => exact (k : False).elim
    | halt x w' => cases x <;> simp only [Oper.upon] at k
  · have hw' : Region.wanted o (yielded ops a.tmps) = false := by simpa using hw
    refine ⟨undef, ?_, ?_, fun l b w K Q hab hz hn hS hK => ?_⟩
    · have h1 := h l0 w0 z0 n0 h0
      unfold wpList at h1
      rw [if_neg hw] at h1
      exact h1.2.1.symm
    · have h1 := h l0 w0 z0 n0 h0
      unfold wpList at h1
      rw [if_neg hw] at h1
      exact ⟨_, h1.2.2⟩
    · rw [agree_wanted hab, if_neg hw]
      have h1 := h l w hz hn hS
      unfold wpList at h1
      rw [if_neg hw] at h1
      exact hK w h1.2.2

theorem walkedS_chain {n : Nat} {Qf : Act → Prop} : ∀ {L : List Oper} (_ : ∀ (j : Nat) (o : Oper), L[j]? = some o → ∀ cs c, o.op ≠ .select cs c) (a : Act) (l0 : Array Bool) (w0 : World) {j0 : Nat}, l0.size = n → (∀ i, j0 ≤ i → l0.getD i false = false) → S l0 w0 →
    WalkedS P ops S n Qf L j0 a →
    ∃ A : Nat → Act, A 0 = a ∧ (∀ k o, L[k]? = some o → ∃ v, A (k + 1) = (A k).put o.dst v ∧ ∀ (l : Array Bool) (b : Act) (w : World) (K : Act → World → Prop) (Q : Exit → Act → World → Prop), Agree ops o (A k) b → l.size = n → l.getD (j0 + k) false = false → S l w →
      (∀ w', S (l.setIfInBounds (j0 + k) true) w' → K (b.put o.dst v) w') → (if Region.wanted o (yielded ops b.tmps) then o.wp P b w K Q ∨ (o.asks P b w ∧ LetsOut Q) else K (b.put o.dst undef) w)) ∧ Qf (A L.length) := by
  intro L
  induction L with
  | nil => intro _ a l0 w0 j0 _ _ _ h; exact ⟨fun _ => a, rfl, fun k o hk => by simp at hk, h⟩
  | cons o L ih =>
    intro hs a l0 w0 j0 hz hn h0 h
    obtain ⟨a', hg, hd, hr⟩ := h
    obtain ⟨v, hv, ⟨w1, h1⟩, step⟩ := gives_vals hg hd (hs 0 o rfl) hz (hn j0 (Nat.le_refl _)) h0
    obtain ⟨A, hA0, hA1, hA2⟩ := ih (fun j o' ho' => hs (j + 1) o' (by simpa using ho')) a' (l0.setIfInBounds j0 true) w1 (j0 := j0 + 1) (by rw [Array.size_setIfInBounds, hz]) (fun i hi => by
      rw [getD_set_ne false (by omega)]; exact hn i (by omega)) h1 hr
    refine ⟨fun k => match k with | 0 => a | k + 1 => A k, rfl, fun k o' hk => ?_, hA2⟩
    cases k with
    | zero =>
      simp at hk
      subst hk
      exact ⟨v, by show A 0 = a.put o.dst v; rw [hA0]; exact hv, step⟩
    | succ k =>
      have := hA1 k o' (by simpa using hk)
      rw [show j0 + 1 + k = j0 + (k + 1) by omega] at this
      exact this

/-- **A statement whose order is open, and which ends in operations that wait for all ahead of them (a store, an append): one walk, in the order of the text, is enough.** -/
theorem wp_region_staged (m : Nat) {id : Nat} {a : Act} {w : World} (hm : P.follows .mixedOrders = true) (hok : seqOk ops = true) (ht : tailOk ops m = true) (hms : m ≤ ops.size) (hS : S (Array.replicate ops.size false) w.drew)
    (h : WalkedS P ops S ops.size (fun a' => ∀ l w', l.size = ops.size → (∀ k, k < m → l.getD k false = true) → S l w' → wpList P ops Q (ops.toList.drop m) a' w') (ops.toList.take m) 0 a) : (Code.region id ops true).wp P Q a w := by
  obtain ⟨A, hA0, hA, hQ⟩ := walkedS_chain (fun j o ho => (seqOk_spec (j := j) hok (by rw [List.getElem?_take] at ho; split at ho; (· simpa using ho); (· cases ho))).1) _ _ _ (by simp) (fun i _ => by simp [Array.getElem?_replicate]; split <;> rfl) hS h
  have hA' : ∀ k o, k < m → ops[k]? = some o → ∃ v, A (k + 1) = (A k).put o.dst v ∧ ∀ (l : Array Bool) (b : Act) (w : World) (K : Act → World → Prop) (Q : Exit → Act → World → Prop), Agree ops o (A k) b → l.size = ops.size → l.getD k false = false → S l w →
      (∀ w', S (l.setIfInBounds k true) w' → K (b.put o.dst v) w') → (if Region.wanted o (yielded ops b.tmps) then o.wp P b w K Q ∨ (o.asks P b w ∧ LetsOut Q) else K (b.put o.dst undef) w) := fun k o hk ho => by
    simpa using hA k o (by rw [List.getElem?_take, if_pos hk]; simpa using ho)
  have hlen : (ops.toList.take m).length = m := by simp [Nat.min_eq_left hms]
  rw [hlen] at hQ
  have asz : ∀ k, k ≤ m → (A k).tmps.size = a.tmps.size ∧ (A k).defers = a.defers := by
    intro k
    induction k with
    | zero => intro _; rw [hA0]; exact ⟨rfl, rfl⟩
    | succ k ih =>
      intro hk
      obtain ⟨v, hv, _⟩ := hA' k _ (by omega) (Array.getElem?_eq_getElem (show k < ops.size by omega))
      obtain ⟨i1, i2⟩ := ih (by omega)
      rw [hv, put_size, put_defs]; exact ⟨i1, i2⟩
  have far : ∀ k t n, k ≤ n → n ≤ m → (∀ i o, k ≤ i → i < n → ops[i]? = some o → o.dst ≠ some t) → (A n).tmps[t]? = (A k).tmps[t]? := by
    intro k t n
    induction n with
    | zero => intro h1 _ _; rw [show k = 0 by omega]
    | succ n ih =>
      intro h1 h2 hno
      by_cases hkm : k = n + 1
      · rw [hkm]
      · obtain ⟨v, hv, _⟩ := hA' n _ (by omega) (Array.getElem?_eq_getElem (show n < ops.size by omega))
        rw [hv, put_ne (hno n _ (by omega) (by omega) (Array.getElem?_eq_getElem (show n < ops.size by omega)))]
        exact ih (by omega) (by omega) (fun i o hi hi' ho => hno i o hi (by omega) ho)
  have unlike : ∀ (i j : Nat) (oi oj : Oper) (t : Tmp), ops[i]? = some oi → ops[j]? = some oj → oi.dst = some t → oj.dst = some t → i = j := by
    intro i j oi oj t hi hj ti tj
    by_cases e : i = j
    · exact e
    · exact absurd tj (((seqOk_spec hok hj).2.2 i oi hi e t ti).1)
  have main : ∀ (fuel : Nat) (listed : Array Bool) (b : Act) (w : World), ((List.range m).filter (fun k => !listed.getD k true)).length + (ops.size - m) ≤ fuel →
      Midway ops a (A m) listed b → (∀ k, listed.getD k false = true → k < m) → S listed w → wpAny P .any ops Q fuel listed b w := by
    intro fuel
    induction fuel with
    | zero =>
      intro listed b w hf hM hin hw
      have hall : ∀ k, k < m → listed.getD k false = true := by
        intro k hk
        have hnil : (List.range m).filter (fun k => !listed.getD k true) = [] := List.length_eq_zero_iff.1 (by omega)
        have := (List.filter_eq_nil_iff.1 hnil) k (List.mem_range.2 hk)
        have hkl : k < listed.size := by rw [hM.len]; omega
        simpa [hkl] using this
      have hfin : b = A m := by
        refine act_ext (Array.ext_getElem? fun t => ?_) (by rw [hM.defers, (asz _ (Nat.le_refl _)).2])
        by_cases hx : ∃ (k : Nat) (o : Oper), k < m ∧ ops[k]? = some o ∧ o.dst = some t
        · obtain ⟨k, o, hk, ho, ht⟩ := hx
          exact hM.done k o t ho (hall k hk) ht
        · rw [hM.left t (fun k o ho hl ht => hx ⟨k, o, hin k hl, ho, ht⟩), far 0 t m (by omega) (Nat.le_refl _) (fun i o _ hi ho ht => hx ⟨i, o, hi, ho, ht⟩), hA0]
      rw [hfin]
      exact forced hok ht (ops.size - m) m 0 listed _ w rfl (by omega) (Nat.le_refl _) hms ⟨hM.len, fun i _ => ⟨fun e => hin i e, fun e => hall i e⟩⟩ hM.closed (hQ listed w hM.len hall hw)
    | succ fuel ih =>
      intro listed b w hf hM hin hw
      by_cases hall : ∀ k, k < m → listed.getD k false = true
      · have hfin : b = A m := by
          refine act_ext (Array.ext_getElem? fun t => ?_) (by rw [hM.defers, (asz _ (Nat.le_refl _)).2])
          by_cases hx : ∃ (k : Nat) (o : Oper), k < m ∧ ops[k]? = some o ∧ o.dst = some t
          · obtain ⟨k, o, hk, ho, ht⟩ := hx
            exact hM.done k o t ho (hall k hk) ht
          · rw [hM.left t (fun k o ho hl ht => hx ⟨k, o, hin k hl, ho, ht⟩), far 0 t m (by omega) (Nat.le_refl _) (fun i o _ hi ho ht => hx ⟨i, o, hi, ho, ht⟩), hA0]
        rw [hfin]
        exact forced hok ht (ops.size - m) m (fuel + 1) listed _ w rfl (by omega) (Nat.le_refl _) hms ⟨hM.len, fun i _ => ⟨fun e => hin i e, fun e => hall i e⟩⟩ hM.closed (hQ listed w hM.len hall hw)
      · refine ⟨fun hnil => absurd ?_ hall, fun j hj => ?_⟩
        · -- nothing may come up: then all has
          have hall' : ∀ n k, k < n → k < m → listed.getD k false = true := by
            intro n
            induction n with
            | zero => intro k hk; omega
            | succ n ihn =>
              intro k hk hs
              by_cases hl : listed.getD k false = true
              · exact hl
              · exfalso
                have hks : k < ops.size := by omega
                have hkl : k < listed.size := by rw [hM.len]; exact hks
                have hmem : k ∈ Region.ready .any ops listed := mem_ready.2 ⟨by simpa [hkl] using hl, _, Array.getElem?_eq_getElem hks, fun e he hb => by
                  have hlt := (seqOk_spec hok (Array.getElem?_eq_getElem hks)).2.1 e he hb
                  exact ihn e.on (by omega) (by omega)⟩
                rw [hnil] at hmem
                cases hmem
          exact fun k hk => hall' _ k (Nat.lt_succ_self k) hk
        · obtain ⟨hjun, o, ho, hedges⟩ := mem_ready.1 hj
          have hjs : j < ops.size := (Array.getElem?_eq_some_iff.1 ho).1
          have hjl : j < listed.size := by rw [hM.len]; exact hjs
          have hjun' : listed.getD j false = false := by simpa [hjl] using hjun
          have hmet : AllMet ops listed j := fun o' ho' e he hb => by
            rw [ho] at ho'
            cases ho'
            exact hedges e he hb
          have hjm : j < m := by
            refine Nat.lt_of_not_le fun hle => hall fun k hk => ?_
            exact met_bit hM.closed k (j + 1) j (by omega) hjs hmet (tailOk_spec ht hjs hle (by omega))
          obtain ⟨v, hv, step⟩ := hA' j o hjm ho
          have hag : Agree ops o (A j) b := by
            refine ⟨by rw [hM.size, (asz j (by omega)).1], fun t ht => ?_⟩
            by_cases hx : ∃ (i : Nat) (oi : Oper), ops[i]? = some oi ∧ oi.dst = some t
            · obtain ⟨i, oi, hi, hti⟩ := hx
              by_cases hij : i = j
              · rw [hM.left t (fun k ok hk hlk htk => by
                  have : k = i := unlike k i ok oi t hk hi htk hti
                  rw [this, hij, hjun'] at hlk
                  cases hlk), far 0 t j (by omega) (by omega) (fun k ok _ hk hok' htk => by
                  have : k = i := unlike k i ok oi t hok' hi htk hti
                  omega), hA0]
              · rcases ((seqOk_spec hok ho).2.2 i oi hi hij t hti).2 ht with ⟨hlt, hbit⟩ | ⟨hlt, hbit⟩
                · have hli := met_bit hM.closed i (j + 1) j (by omega) hjs hmet hbit
                  rw [hM.done i oi t hi hli hti]
                  exact far j t m (by omega) (Nat.le_refl _) (fun k ok hk _ hok' htk => by
                    have : k = i := unlike k i ok oi t hok' hi htk hti
                    omega)
                · have hun : listed.getD i false ≠ true := fun hli => by
                    have his : i < ops.size := (Array.getElem?_eq_some_iff.1 hi).1
                    have := met_bit hM.closed j (i + 1) i (by omega) his (hM.closed i hli) hbit
                    rw [hjun'] at this
                    cases this
                  rw [hM.left t (fun k ok hk hlk htk => by
                    have : k = i := unlike k i ok oi t hk hi htk hti
                    rw [this] at hlk
                    exact hun hlk), far 0 t j (by omega) (by omega) (fun k ok _ hk hok' htk => by
                    have : k = i := unlike k i ok oi t hok' hi htk hti
                    omega), hA0]
            · rw [hM.left t (fun k ok hk _ htk => hx ⟨k, ok, hk, htk⟩), far 0 t j (by omega) (by omega) (fun k ok _ _ hk htk => hx ⟨k, ok, hk, htk⟩), hA0]
          have hM' : Midway ops a (A m) (listed.setIfInBounds j true) (b.put o.dst v) := by
            refine ⟨by rw [put_size, hM.size], by rw [put_defs, hM.defers], by rw [Array.size_setIfInBounds, hM.len], fun y hy => ?_, fun k ok t hk hlk htk => ?_, fun t hno => ?_⟩
            · intro oy hoy e he hb
              by_cases hyj : j = y
              · subst hyj
                exact getD_set_true (hmet oy hoy e he hb)
              · rw [getD_set_ne false hyj] at hy
                exact getD_set_true (hM.closed y hy oy hoy e he hb)
            · by_cases hkj : j = k
              · subst hkj
                rw [ho] at hk
                cases hk
                rw [htk, put_at (b := A j) (by rw [hM.size, (asz j (by omega)).1]), ← htk, ← hv]
                exact (far (j + 1) t m (by omega) (Nat.le_refl _) (fun i oi hi _ hoi hti => by
                  have : i = j := unlike i j oi o t hoi ho hti htk
                  omega)).symm
              · rw [getD_set_ne false hkj] at hlk
                rw [put_ne (fun e => hkj (unlike j k o ok t ho hk e htk))]
                exact hM.done k ok t hk hlk htk
            · have hjt : o.dst ≠ some t := hno j o ho (by simp [hjl])
              rw [put_ne hjt]
              refine hM.left t (fun k ok hk hlk => hno k ok hk ?_)
              exact getD_set_true hlk
          unfold wpOp
          simp only [ho]
          refine step listed b w _ Q hag hM.len hjun' hw (fun w' hw' => ih _ _ w' ?_ hM' (fun k hk => ?_) hw')
          · have := count_lt (p := fun k => !listed.getD k true) (q := fun k => !(listed.setIfInBounds j true).getD k true) (fun k hk => by
              by_cases hkj : j = k
              · subst hkj; simp [hjun]
              · rw [getD_set_ne true hkj] at hk; exact hk) (j := j) (by simp [hjun]) (by simp [hjl]) (List.mem_range.2 hjm)
            omega
          · by_cases hkj : j = k
            · omega
            · rw [getD_set_ne false hkj] at hk
              exact hin k hk
  refine wp_region_any hm (main ops.size _ a w.drew ?_ ?_ ?_ hS)
  · have := List.length_filter_le (fun k => !(Array.replicate ops.size false).getD k true) (List.range m)
    simp only [List.length_range] at this
    omega
  · refine ⟨rfl, rfl, by simp, fun y hy => ?_, fun k o t ho hk _ => ?_, fun t _ => rfl⟩
    · simp [Array.getElem?_replicate] at hy
      split at hy <;> simp at hy
    · simp [Array.getElem?_replicate] at hk
      split at hk <;> simp at hk
  · intro k hk
    simp [Array.getElem?_replicate] at hk
    split at hk <;> simp at hk


theorem walkedS_cons {n j : Nat} {Qf : Act → Prop} {o : Oper} {r : List Oper} {a a' : Act} (hg : GivesS P ops S n j o a a') (hd : a'.defers = a.defers) (hr : WalkedS P ops S n Qf r (j + 1) a') : WalkedS P ops S n Qf (o :: r) j a := ⟨a', hg, hd, hr⟩
theorem walkedS_nil {n j : Nat} {Qf : Act → Prop} {a : Act} (h : Qf a) : WalkedS P ops S n Qf [] j a := h
end

end Go.Proofs.Ytfiofjalpaeohaa
