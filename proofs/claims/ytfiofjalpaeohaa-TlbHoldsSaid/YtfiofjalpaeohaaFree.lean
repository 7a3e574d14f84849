/- As StageM, with one allocation that may come anywhere: its pointer is not fixed. No function of the program stands here. -/
import Derived.Test.YtfiofjalpaeohaaStageM
namespace Go.Proofs.Ytfiofjalpaeohaa
set_option linter.unusedVariables false
set_option linter.unusedSimpArgs false
open Go.RowKit

section
variable {P : Program} {ops : Array Oper} {Q : Exit → Act → World → Prop}
/-- What an operation gives at one frame it gives at every frame that agrees on what it looks at. -/
theorem gives_stepF {S : Array Bool → World → Prop} {n j : Nat} {o : Oper} {a : Act} {v : Value} (h : GivesM P ops S n j o a (a.put o.dst v)) (hs : ∀ cs c, o.op ≠ .select cs c) :
    ∀ (l : Array Bool) (b : Act) (w : World) (K : Act → World → Prop) (Q : Exit → Act → World → Prop), Agree ops o a b → l.size = n → l.getD j false = false → AllMet ops l j → S l w → (∀ w', S (l.setIfInBounds j true) w' → K (b.put o.dst v) w') →
      (if Region.wanted o (yielded ops b.tmps) then o.wp P b w K Q ∨ (o.asks P b w ∧ LetsOut Q) else K (b.put o.dst undef) w) := by
  intro l b w K Q hab hz hn hm hS hK
  have hd : (a.put o.dst v).defers = a.defers := put_defs _ _ _
  obtain ⟨a', hv⟩ : ∃ a', a' = a.put o.dst v := ⟨_, rfl⟩
  rw [← hv] at h hd
  by_cases hw : Region.wanted o (yielded ops a.tmps) = true
  · -- what it comes to in a world of S
    have key : ∀ l w, l.size = n → l.getD j false = false → AllMet ops l j → S l w → o.wp P a w (fun a'' w' => a'' = a' ∧ S (l.setIfInBounds j true) w') (fun _ _ _ => False) := by
      intro l w hz hn hm hS
      have h1 := h l w hz hn hm hS
      unfold wpList at h1
      rw [if_pos hw] at h1
      rcases h1 with h1 | ⟨_, a1, w1, h1, _⟩
      · unfold Oper.wp at h1 ⊢
        generalize (execOp a.eval o).run P w = r at h1 ⊢
        cases r with
        | ok n w' =>
          cases n with
          | value v => exact h1.2
          | skip => exact h1.2
          | defer d => exact h1.2
          | enter f args =>
            simp only [Oper.upon] at h1 ⊢
            refine Calls.mono h1 fun e w'' he => ?_
            cases e with
            | returned v => exact he.2
            | panicked c => exact absurd he.1 (by simp)
            | outgrown => obtain ⟨_, _, h2, _⟩ := he; exact absurd h2 (by simp)
          | row row args =>
            simp only [Oper.upon] at h1 ⊢
            exact Rows.mono h1 fun v w'' he => he.2
          | _ => exact (h1 : False).elim
        | halt x w' =>
          cases x <;> simp only [Oper.upon] at h1 ⊢ <;> first | exact h1 | exact absurd h1.1 (by simp)
      · exact absurd h1 (by simp)
    have nodefer : ∀ d, ({ a with defers := d :: a.defers } : Act).put o.dst undef ≠ a' := by
      intro d e
      have h1 := congrArg Act.defers e
      rw [hd] at h1
      have h2 : (({ a with defers := d :: a.defers } : Act).put o.dst undef).defers = d :: a.defers := by cases o.dst <;> rfl
      rw [h2] at h1
      have := congrArg List.length h1
      simp at this
    rw [agree_wanted hab, if_pos hw]
    refine .inl ?_
    have k := key l w hz hn hm hS
    unfold Oper.wp at k ⊢
    rw [agree_eval hab hs]
    have same : ∀ u, a.put o.dst u = a' → b.put o.dst u = b.put o.dst v := fun u hu => put_same hab.1 (hu.trans hv)
    generalize (execOp a.eval o).run P w = r at k ⊢
    cases r with
    | ok n w' =>
      cases n with
      | value u => show K _ _; rw [same u k.1]; exact hK _ k.2
      | skip => show K _ _; rw [same undef k.1]; exact hK _ k.2
      | defer d => exact absurd k.1 (nodefer d)
      | enter f args =>
        simp only [Oper.upon] at k ⊢
        refine Calls.mono k fun e w'' he => ?_
        cases e with
        | returned u => show K _ _; rw [same u he.1]; exact hK _ he.2
        | panicked c => exact he.elim
        | outgrown => obtain ⟨_, _, h2⟩ := he; exact h2.elim
      | row row args =>
        simp only [Oper.upon] at k ⊢
        refine Rows.mono k fun u w'' he => ?_
        rw [same u he.1]; exact hK _ he.2
      | _ => exact (k : False).elim
    | halt x w' => cases x <;> simp only [Oper.upon] at k
  · rw [agree_wanted hab, if_neg hw]
    have h1 := h l w hz hn hm hS
    unfold wpList at h1
    rw [if_neg hw] at h1
    have e : a.put o.dst undef = a.put o.dst v := h1.2.1.trans hv
    rw [put_same hab.1 e]
    exact hK w h1.2.2

/-- The operations one by one, in the order of the text; number F gives what it will. -/
def WalkedF (P : Program) (ops : Array Oper) (S : Value → Array Bool → World → Prop) (F n : Nat) (Q : Value → Act → Prop) : List Oper → Nat → (Value → Act) → Prop
  | [], _, a => ∀ v, Q v (a v)
  | o :: r, j, a => (j = F ∧ WalkedF P ops S F n Q r (j + 1) (fun v => (a v).put o.dst v)) ∨ (j ≠ F ∧ ∃ u, (∀ v, GivesM P ops (S v) n j o (a v) ((a v).put o.dst u)) ∧ WalkedF P ops S F n Q r (j + 1) (fun v => (a v).put o.dst u))
section
variable {S : Value → Array Bool → World → Prop}
theorem walkedF_chain {F n : Nat} {Qf : Value → Act → Prop} : ∀ {L : List Oper} (_ : ∀ (j : Nat) (o : Oper), L[j]? = some o → ∀ cs c, o.op ≠ .select cs c) (a : Value → Act) {j0 : Nat}, WalkedF P ops S F n Qf L j0 a →
    ∃ A : Value → Nat → Act, (∀ v, A v 0 = a v) ∧ (∀ k o, L[k]? = some o → j0 + k ≠ F → ∃ u, ∀ v, A v (k + 1) = (A v k).put o.dst u ∧ ∀ (l : Array Bool) (b : Act) (w : World) (K : Act → World → Prop) (Q : Exit → Act → World → Prop), Agree ops o (A v k) b → l.size = n → l.getD (j0 + k) false = false → AllMet ops l (j0 + k) → S v l w →
      (∀ w', S v (l.setIfInBounds (j0 + k) true) w' → K (b.put o.dst u) w') → (if Region.wanted o (yielded ops b.tmps) then o.wp P b w K Q ∨ (o.asks P b w ∧ LetsOut Q) else K (b.put o.dst undef) w)) ∧
      (∀ k o, L[k]? = some o → j0 + k = F → ∀ v, A v (k + 1) = (A v k).put o.dst v) ∧ ∀ v, Qf v (A v L.length) := by
  intro L
  induction L with
  | nil => intro _ a j0 h; exact ⟨fun v _ => a v, fun _ => rfl, fun k o hk => by simp at hk, fun k o hk => by simp at hk, h⟩
  | cons o L ih =>
    intro hs a j0 h
    rcases h with ⟨hj, hr⟩ | ⟨hj, u, hg, hr⟩
    · obtain ⟨A, hA0, hA1, hA2, hA3⟩ := ih (fun j o' ho' => hs (j + 1) o' (by simpa using ho')) _ hr
      refine ⟨fun v k => match k with | 0 => a v | k + 1 => A v k, fun _ => rfl, fun k o' hk hF => ?_, fun k o' hk hF v => ?_, hA3⟩
      · cases k with
        | zero => exact absurd hj (by simpa using hF)
        | succ k =>
          have := hA1 k o' (by simpa using hk) (by omega)
          rw [show j0 + 1 + k = j0 + (k + 1) by omega] at this
          exact this
      · cases k with
        | zero =>
          simp at hk
          subst hk
          show A v 0 = (a v).put o.dst v
          rw [hA0]
        | succ k => exact hA2 k o' (by simpa using hk) (by omega) v
    · obtain ⟨A, hA0, hA1, hA2, hA3⟩ := ih (fun j o' ho' => hs (j + 1) o' (by simpa using ho')) _ hr
      refine ⟨fun v k => match k with | 0 => a v | k + 1 => A v k, fun _ => rfl, fun k o' hk hF => ?_, fun k o' hk hF v => ?_, hA3⟩
      · cases k with
        | zero =>
          simp at hk
          subst hk
          exact ⟨u, fun v => ⟨by show A v 0 = _; rw [hA0], gives_stepF (hg v) (hs 0 o rfl)⟩⟩
        | succ k =>
          have := hA1 k o' (by simpa using hk) (by omega)
          rw [show j0 + 1 + k = j0 + (k + 1) by omega] at this
          exact this
      · cases k with
        | zero => exact absurd hF (by simpa using hj)
        | succ k => exact hA2 k o' (by simpa using hk) (by omega) v

/-- **As wp_region_met; operation F is an allocation that may come anywhere.** -/
theorem wp_region_free (F m : Nat) {id : Nat} {a : Act} {w : World} (oF : Oper) (hF : ops[F]? = some oF) (hFm : F < m) (hgd : oF.guard = none) (C : Obj) (hrun : ∀ (b : Act) (x : World), (execOp b.eval oF).run P x = .ok (.value (.pointer (some ⟨x.heap.size, 0, none⟩))) (x.alloc C))
    (hfree : ∀ (v : Value) (l : Array Bool) (x : World), l.size = ops.size → l.getD F false = false → S v l x → S (.pointer (some ⟨x.heap.size, 0, none⟩)) (l.setIfInBounds F true) (x.alloc C))
    (hm : P.follows .mixedOrders = true) (hok : seqOk ops = true) (ht : tailOk ops m = true) (hms : m ≤ ops.size) (v0 : Value) (hS : S v0 (Array.replicate ops.size false) w.drew)
    (h : WalkedF P ops S F ops.size (fun v a' => ∀ l w', l.size = ops.size → (∀ k, k < m → l.getD k false = true) → S v l w' → wpList P ops Q (ops.toList.drop m) a' w') (ops.toList.take m) 0 (fun _ => a)) : (Code.region id ops true).wp P Q a w := by
  obtain ⟨A, hA0, hA1, hA2, hQ⟩ := walkedF_chain (fun j o ho => (seqOk_spec (j := j) hok (by rw [List.getElem?_take] at ho; split at ho; (· simpa using ho); (· cases ho))).1) _ h
  have hA' : ∀ k o, k < m → ops[k]? = some o → k ≠ F → ∃ u, ∀ v, A v (k + 1) = (A v k).put o.dst u ∧ ∀ (l : Array Bool) (b : Act) (w : World) (K : Act → World → Prop) (Q : Exit → Act → World → Prop), Agree ops o (A v k) b → l.size = ops.size → l.getD k false = false → AllMet ops l k → S v l w →
      (∀ w', S v (l.setIfInBounds k true) w' → K (b.put o.dst u) w') → (if Region.wanted o (yielded ops b.tmps) then o.wp P b w K Q ∨ (o.asks P b w ∧ LetsOut Q) else K (b.put o.dst undef) w) := fun k o hk ho hkF => by
    simpa using hA1 k o (by rw [List.getElem?_take, if_pos hk]; simpa using ho) (by omega)
  have hAF : ∀ v, A v (F + 1) = (A v F).put oF.dst v := hA2 F oF (by rw [List.getElem?_take, if_pos hFm]; simpa using hF) (by omega)
  have hAll : ∀ v k o, k < m → ops[k]? = some o → ∃ u, A v (k + 1) = (A v k).put o.dst u := fun v k o hk ho => by
    by_cases hkF : k = F
    · subst hkF
      rw [hF] at ho
      cases ho
      exact ⟨v, hAF v⟩
    · obtain ⟨u, hu⟩ := hA' k o hk ho hkF
      exact ⟨u, (hu v).1⟩
  have hlen : (ops.toList.take m).length = m := by simp [Nat.min_eq_left hms]
  rw [hlen] at hQ
  have asz : ∀ v k, k ≤ m → (A v k).tmps.size = a.tmps.size ∧ (A v k).defers = a.defers := by
    intro v k
    induction k with
    | zero => intro _; rw [hA0 v]; exact ⟨rfl, rfl⟩
    | succ k ih =>
      intro hk
      obtain ⟨u, hv⟩ := hAll v k _ (by omega) (Array.getElem?_eq_getElem (show k < ops.size by omega))
      obtain ⟨i1, i2⟩ := ih (by omega)
      rw [hv, put_size, put_defs]; exact ⟨i1, i2⟩
  have far : ∀ v k t n, k ≤ n → n ≤ m → (∀ i o, k ≤ i → i < n → ops[i]? = some o → o.dst ≠ some t) → (A v n).tmps[t]? = (A v k).tmps[t]? := by
    intro v k t n
    induction n with
    | zero => intro h1 _ _; rw [show k = 0 by omega]
    | succ n ih =>
      intro h1 h2 hno
      by_cases hkm : k = n + 1
      · rw [hkm]
      · obtain ⟨u, hv⟩ := hAll v n _ (by omega) (Array.getElem?_eq_getElem (show n < ops.size by omega))
        rw [hv, put_ne (hno n _ (by omega) (by omega) (Array.getElem?_eq_getElem (show n < ops.size by omega)))]
        exact ih (by omega) (by omega) (fun i o hi hi' ho => hno i o hi (by omega) ho)
  have unlike : ∀ (i j : Nat) (oi oj : Oper) (t : Tmp), ops[i]? = some oi → ops[j]? = some oj → oi.dst = some t → oj.dst = some t → i = j := by
    intro i j oi oj t hi hj ti tj
    by_cases e : i = j
    · exact e
    · exact absurd tj (((seqOk_spec hok hj).2.2 i oi hi e t ti).1)
  have same : ∀ (v v' : Value) (k : Nat) (o : Oper) (t : Tmp), ops[k]? = some o → k < m → k ≠ F → o.dst = some t → (A v m).tmps[t]? = (A v' m).tmps[t]? := by
    intro v v' k o t ho hk hkF ht
    obtain ⟨u, hu⟩ := hA' k o hk ho hkF
    have hno : ∀ i oi, k + 1 ≤ i → i < m → ops[i]? = some oi → oi.dst ≠ some t := fun i oi hi _ hoi hti => by
      have : i = k := unlike i k oi o t hoi ho hti ht
      omega
    rw [far v (k + 1) t m (by omega) (Nat.le_refl _) hno, far v' (k + 1) t m (by omega) (Nat.le_refl _) hno, (hu v).1, (hu v').1, ht]
    exact put_at (by rw [(asz v' k (by omega)).1, (asz v k (by omega)).1])
  have main : ∀ (fuel : Nat) (listed : Array Bool) (b : Act) (w : World), ((List.range m).filter (fun k => !listed.getD k true)).length + (ops.size - m) ≤ fuel →
      (∃ v, Midway ops a (A v m) listed b ∧ S v listed w) → (∀ k, listed.getD k false = true → k < m) → wpAny P .any ops Q fuel listed b w := by
    intro fuel
    induction fuel with
    | zero =>
      intro listed b w hf hMw hin
      obtain ⟨vv, hM, hw⟩ := hMw
      have hall : ∀ k, k < m → listed.getD k false = true := by
        intro k hk
        have hnil : (List.range m).filter (fun k => !listed.getD k true) = [] := List.length_eq_zero_iff.1 (by omega)
        have := (List.filter_eq_nil_iff.1 hnil) k (List.mem_range.2 hk)
        have hkl : k < listed.size := by rw [hM.len]; omega
        simpa [hkl] using this
      have hfin : b = A vv m := by
        refine act_ext (Array.ext_getElem? fun t => ?_) (by rw [hM.defers, (asz vv _ (Nat.le_refl _)).2])
        by_cases hx : ∃ (k : Nat) (o : Oper), k < m ∧ ops[k]? = some o ∧ o.dst = some t
        · obtain ⟨k, o, hk, ho, ht⟩ := hx
          exact hM.done k o t ho (hall k hk) ht
        · rw [hM.left t (fun k o ho hl ht => hx ⟨k, o, hin k hl, ho, ht⟩), far vv 0 t m (by omega) (Nat.le_refl _) (fun i o _ hi ho ht => hx ⟨i, o, hi, ho, ht⟩), hA0 vv]
      rw [hfin]
      exact forced hok ht (ops.size - m) m 0 listed _ w rfl (by omega) (Nat.le_refl _) hms ⟨hM.len, fun i _ => ⟨fun e => hin i e, fun e => hall i e⟩⟩ hM.closed (hQ vv listed w hM.len hall hw)
    | succ fuel ih =>
      intro listed b w hf hMw hin
      obtain ⟨vv, hM, hw⟩ := hMw
      by_cases hall : ∀ k, k < m → listed.getD k false = true
      · have hfin : b = A vv m := by
          refine act_ext (Array.ext_getElem? fun t => ?_) (by rw [hM.defers, (asz vv _ (Nat.le_refl _)).2])
          by_cases hx : ∃ (k : Nat) (o : Oper), k < m ∧ ops[k]? = some o ∧ o.dst = some t
          · obtain ⟨k, o, hk, ho, ht⟩ := hx
            exact hM.done k o t ho (hall k hk) ht
          · rw [hM.left t (fun k o ho hl ht => hx ⟨k, o, hin k hl, ho, ht⟩), far vv 0 t m (by omega) (Nat.le_refl _) (fun i o _ hi ho ht => hx ⟨i, o, hi, ho, ht⟩), hA0 vv]
        rw [hfin]
        exact forced hok ht (ops.size - m) m (fuel + 1) listed _ w rfl (by omega) (Nat.le_refl _) hms ⟨hM.len, fun i _ => ⟨fun e => hin i e, fun e => hall i e⟩⟩ hM.closed (hQ vv listed w hM.len hall hw)
      · refine ⟨fun hnil => absurd ?_ hall, fun j hj => ?_⟩
        · -- nothing may come up: then all has
          have hall' : ∀ n k, k < n → k < m → listed.getD k false = true := by
            intro n
            induction n with
            | zero => intro k hk; omega
            | succ n ihn =>
              intro k hk hs
              by_cases hl : listed.getD k false = true
              · exact hl
              · exfalso
                have hks : k < ops.size := by omega
                have hkl : k < listed.size := by rw [hM.len]; exact hks
                have hmem : k ∈ Region.ready .any ops listed := mem_ready.2 ⟨by simpa [hkl] using hl, _, Array.getElem?_eq_getElem hks, fun e he hb => by
                  have hlt := (seqOk_spec hok (Array.getElem?_eq_getElem hks)).2.1 e he hb
                  exact ihn e.on (by omega) (by omega)⟩
                rw [hnil] at hmem
                cases hmem
          exact fun k hk => hall' _ k (Nat.lt_succ_self k) hk
        · obtain ⟨hjun, o, ho, hedges⟩ := mem_ready.1 hj
          have hjs : j < ops.size := (Array.getElem?_eq_some_iff.1 ho).1
          have hjl : j < listed.size := by rw [hM.len]; exact hjs
          have hjun' : listed.getD j false = false := by simpa [hjl] using hjun
          have hmet : AllMet ops listed j := fun o' ho' e he hb => by
            rw [ho] at ho'
            cases ho'
            exact hedges e he hb
          have hjm : j < m := by
            refine Nat.lt_of_not_le fun hle => hall fun k hk => ?_
            exact met_bit hM.closed k (j + 1) j (by omega) hjs hmet (tailOk_spec ht hjs hle (by omega))
          by_cases hjF : j = F
          · subst hjF
            rw [hF] at ho
            cases ho
            have hM' : Midway ops a (A (.pointer (some ⟨w.heap.size, 0, none⟩)) m) (listed.setIfInBounds j true) (b.put oF.dst (.pointer (some ⟨w.heap.size, 0, none⟩))) := by
              refine ⟨by rw [put_size, hM.size], by rw [put_defs, hM.defers], by rw [Array.size_setIfInBounds, hM.len], fun y hy => ?_, fun k ok t hk hlk htk => ?_, fun t hno => ?_⟩
              · intro oy hoy e he hb
                by_cases hyj : j = y
                · subst hyj
                  exact getD_set_true (hmet oy hoy e he hb)
                · rw [getD_set_ne false hyj] at hy
                  exact getD_set_true (hM.closed y hy oy hoy e he hb)
              · by_cases hkj : j = k
                · subst hkj
                  rw [hF] at hk
                  cases hk
                  rw [far (.pointer (some ⟨w.heap.size, 0, none⟩)) (j + 1) t m (by omega) (Nat.le_refl _) (fun i oi hi _ hoi hti => by
                    have : i = j := unlike i j oi oF t hoi hF hti htk
                    omega), hAF, htk]
                  exact put_at (by rw [(asz (.pointer (some ⟨w.heap.size, 0, none⟩)) j (by omega)).1, hM.size])
                · rw [getD_set_ne false hkj] at hlk
                  rw [put_ne (fun e => hkj (unlike j k oF ok t hF hk e htk)), hM.done k ok t hk hlk htk]
                  exact same _ _ k ok t hk (hin k hlk) (fun e => hkj e.symm) htk
              · have hjt : oF.dst ≠ some t := hno j oF hF (by simp [hjl])
                rw [put_ne hjt]
                refine hM.left t (fun k ok hk hlk => hno k ok hk ?_)
                exact getD_set_true hlk
            unfold wpOp
            simp only [hF]
            have hwant : Region.wanted oF (yielded ops b.tmps) = true := by unfold Region.wanted; rw [hgd]
            rw [if_pos hwant]
            refine .inl ?_
            unfold Oper.wp
            rw [hrun]
            show wpAny _ _ _ _ _ _ _ _
            refine ih _ _ _ ?_ ⟨_, hM', hfree vv listed w hM.len hjun' hw⟩ (fun k hk => ?_)
            · have := count_lt (p := fun k => !listed.getD k true) (q := fun k => !(listed.setIfInBounds j true).getD k true) (fun k hk => by
                by_cases hkj : j = k
                · subst hkj; simp [hjun]
                · rw [getD_set_ne true hkj] at hk; exact hk) (j := j) (by simp [hjun]) (by simp [hjl]) (List.mem_range.2 hjm)
              omega
            · by_cases hkj : j = k
              · omega
              · rw [getD_set_ne false hkj] at hk
                exact hin k hk
          obtain ⟨v, hAv⟩ := hA' j o hjm ho hjF
          obtain ⟨hv, step⟩ := hAv vv
          have hag : Agree ops o (A vv j) b := by
            refine ⟨by rw [hM.size, (asz vv j (by omega)).1], fun t ht => ?_⟩
            by_cases hx : ∃ (i : Nat) (oi : Oper), ops[i]? = some oi ∧ oi.dst = some t
            · obtain ⟨i, oi, hi, hti⟩ := hx
              by_cases hij : i = j
              · rw [hM.left t (fun k ok hk hlk htk => by
                  have : k = i := unlike k i ok oi t hk hi htk hti
                  rw [this, hij, hjun'] at hlk
                  cases hlk), far vv 0 t j (by omega) (by omega) (fun k ok _ hk hok' htk => by
                  have : k = i := unlike k i ok oi t hok' hi htk hti
                  omega), hA0 vv]
              · rcases ((seqOk_spec hok ho).2.2 i oi hi hij t hti).2 ht with ⟨hlt, hbit⟩ | ⟨hlt, hbit⟩
                · have hli := met_bit hM.closed i (j + 1) j (by omega) hjs hmet hbit
                  rw [hM.done i oi t hi hli hti]
                  exact far vv j t m (by omega) (Nat.le_refl _) (fun k ok hk _ hok' htk => by
                    have : k = i := unlike k i ok oi t hok' hi htk hti
                    omega)
                · have hun : listed.getD i false ≠ true := fun hli => by
                    have his : i < ops.size := (Array.getElem?_eq_some_iff.1 hi).1
                    have := met_bit hM.closed j (i + 1) i (by omega) his (hM.closed i hli) hbit
                    rw [hjun'] at this
                    cases this
                  rw [hM.left t (fun k ok hk hlk htk => by
                    have : k = i := unlike k i ok oi t hk hi htk hti
                    rw [this] at hlk
                    exact hun hlk), far vv 0 t j (by omega) (by omega) (fun k ok _ hk hok' htk => by
                    have : k = i := unlike k i ok oi t hok' hi htk hti
                    omega), hA0 vv]
            · rw [hM.left t (fun k ok hk _ htk => hx ⟨k, ok, hk, htk⟩), far vv 0 t j (by omega) (by omega) (fun k ok _ _ hk htk => hx ⟨k, ok, hk, htk⟩), hA0 vv]
          have hM' : Midway ops a (A vv m) (listed.setIfInBounds j true) (b.put o.dst v) := by
            refine ⟨by rw [put_size, hM.size], by rw [put_defs, hM.defers], by rw [Array.size_setIfInBounds, hM.len], fun y hy => ?_, fun k ok t hk hlk htk => ?_, fun t hno => ?_⟩
            · intro oy hoy e he hb
              by_cases hyj : j = y
              · subst hyj
                exact getD_set_true (hmet oy hoy e he hb)
              · rw [getD_set_ne false hyj] at hy
                exact getD_set_true (hM.closed y hy oy hoy e he hb)
            · by_cases hkj : j = k
              · subst hkj
                rw [ho] at hk
                cases hk
                rw [htk, put_at (b := A vv j) (by rw [hM.size, (asz vv j (by omega)).1]), ← htk, ← hv]
                exact (far vv (j + 1) t m (by omega) (Nat.le_refl _) (fun i oi hi _ hoi hti => by
                  have : i = j := unlike i j oi o t hoi ho hti htk
                  omega)).symm
              · rw [getD_set_ne false hkj] at hlk
                rw [put_ne (fun e => hkj (unlike j k o ok t ho hk e htk))]
                exact hM.done k ok t hk hlk htk
            · have hjt : o.dst ≠ some t := hno j o ho (by simp [hjl])
              rw [put_ne hjt]
              refine hM.left t (fun k ok hk hlk => hno k ok hk ?_)
              exact getD_set_true hlk
          unfold wpOp
          simp only [ho]
          refine step listed b w _ Q hag hM.len hjun' hmet hw (fun w' hw' => ih _ _ w' ?_ ⟨vv, hM', hw'⟩ (fun k hk => ?_))
          · have := count_lt (p := fun k => !listed.getD k true) (q := fun k => !(listed.setIfInBounds j true).getD k true) (fun k hk => by
              by_cases hkj : j = k
              · subst hkj; simp [hjun]
              · rw [getD_set_ne true hkj] at hk; exact hk) (j := j) (by simp [hjun]) (by simp [hjl]) (List.mem_range.2 hjm)
            omega
          · by_cases hkj : j = k
            · omega
            · rw [getD_set_ne false hkj] at hk
              exact hin k hk
  refine wp_region_any hm (main ops.size _ a w.drew ?_ ⟨v0, ?_, hS⟩ ?_)
  · have := List.length_filter_le (fun k => !(Array.replicate ops.size false).getD k true) (List.range m)
    simp only [List.length_range] at this
    omega
  · refine ⟨rfl, rfl, by simp, fun y hy => ?_, fun k o t ho hk _ => ?_, fun t _ => rfl⟩
    · simp [Array.getElem?_replicate] at hy
      split at hy <;> simp at hy
    · simp [Array.getElem?_replicate] at hk
      split at hk <;> simp at hk
  · intro k hk
    simp [Array.getElem?_replicate] at hk
    split at hk <;> simp at hk




theorem walkedF_cons {F n j : Nat} {Qf : Value → Act → Prop} {o : Oper} {r : List Oper} {a : Value → Act} (u : Value) (hj : j ≠ F) (hg : ∀ v, GivesM P ops (S v) n j o (a v) ((a v).put o.dst u)) (hr : WalkedF P ops S F n Qf r (j + 1) (fun v => (a v).put o.dst u)) : WalkedF P ops S F n Qf (o :: r) j a := .inr ⟨hj, u, hg, hr⟩
theorem walkedF_free {F n : Nat} {Qf : Value → Act → Prop} {o : Oper} {r : List Oper} {a : Value → Act} (hr : WalkedF P ops S F n Qf r (F + 1) (fun v => (a v).put o.dst v)) : WalkedF P ops S F n Qf (o :: r) F a := .inl ⟨rfl, hr⟩
theorem walkedF_nil {F n j : Nat} {Qf : Value → Act → Prop} {a : Value → Act} (h : ∀ v, Qf v (a v)) : WalkedF P ops S F n Qf [] j a := h
end
end
end Go.Proofs.Ytfiofjalpaeohaa
