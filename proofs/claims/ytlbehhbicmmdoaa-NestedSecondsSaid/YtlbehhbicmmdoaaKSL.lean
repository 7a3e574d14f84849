/- Texts on the way to the statement NestedSeconds, several in one file: each part says what it is. -/
import Derived.Test.YtlbehhbicmmdoaaKSE
import Derived.Test.YtlbehhbicmmdoaaKSK
import Derived.Great.BuildSlice
namespace Go.Proofs.Ytlbehhbicmmdoaa
set_option linter.unusedVariables false
set_option linter.unusedSimpArgs false
open Go.RowKit
section
variable {P : Program} {ops : Array Oper} {Q : Exit → Act → World → Prop}
/-- The operations one by one, in the order of the text; those that F names give what they will. -/
def WalkedV (P : Program) (ops : Array Oper) (S : (Nat → Value) → Array Bool → World → Prop) (F : Nat → Option (Obj × (Nat → Value))) (n : Nat) (Q : (Nat → Value) → Act → Prop) : List Oper → Nat → ((Nat → Value) → Act) → Prop
  | [], _, a => ∀ v, Q v (a v)
  | o :: r, j, a => (∃ C mk, F j = some (C, mk) ∧ o.guard = none ∧ (∀ (v : Nat → Value) (b : Act) (x : World), Agree ops o (a v) b → (execOp b.eval o).run P x = .ok (.value (mk x.heap.size)) (x.alloc C)) ∧ WalkedV P ops S F n Q r (j + 1) (fun v => (a v).put o.dst (v j))) ∨ (F j = none ∧ ∃ u : (Nat → Value) → Value, (∀ v i x l, AllMet ops l j → l.getD i false = false → u (updV v i x) = u v) ∧ (∀ v, GivesM P ops (S v) n j o (a v) ((a v).put o.dst (u v))) ∧ WalkedV P ops S F n Q r (j + 1) (fun v => (a v).put o.dst (u v)))
section
variable {S : (Nat → Value) → Array Bool → World → Prop}
theorem walkedV_chain {F : Nat → Option (Obj × (Nat → Value))} {n : Nat} {Qf : (Nat → Value) → Act → Prop} : ∀ {L : List Oper} (_ : ∀ (j : Nat) (o : Oper), L[j]? = some o → ∀ cs c, o.op ≠ .select cs c) (a : (Nat → Value) → Act) {j0 : Nat}, WalkedV P ops S F n Qf L j0 a →
    ∃ A : (Nat → Value) → Nat → Act, (∀ v, A v 0 = a v) ∧ (∀ k o, L[k]? = some o → F (j0 + k) = none → ∃ u : (Nat → Value) → Value, (∀ v i x l, AllMet ops l (j0 + k) → l.getD i false = false → u (updV v i x) = u v) ∧ ∀ v, A v (k + 1) = (A v k).put o.dst (u v) ∧ ∀ (l : Array Bool) (b : Act) (w : World) (K : Act → World → Prop) (Q : Exit → Act → World → Prop), Agree ops o (A v k) b → l.size = n → l.getD (j0 + k) false = false → AllMet ops l (j0 + k) → S v l w →
      (∀ w', S v (l.setIfInBounds (j0 + k) true) w' → K (b.put o.dst (u v)) w') → (if Region.wanted o (yielded ops b.tmps) then o.wp P b w K Q ∨ (o.asks P b w ∧ LetsOut Q) else K (b.put o.dst undef) w)) ∧
      (∀ k o, L[k]? = some o → F (j0 + k) ≠ none → ∀ v, A v (k + 1) = (A v k).put o.dst (v (j0 + k))) ∧ (∀ k o C mk, L[k]? = some o → F (j0 + k) = some (C, mk) → o.guard = none ∧ ∀ (v : Nat → Value) (b : Act) (x : World), Agree ops o (A v k) b → (execOp b.eval o).run P x = .ok (.value (mk x.heap.size)) (x.alloc C)) ∧ ∀ v, Qf v (A v L.length) := by
  intro L
  induction L with
  | nil => intro _ a j0 h; exact ⟨fun v _ => a v, fun _ => rfl, fun k o hk => by simp at hk, fun k o hk => by simp at hk, fun k o C mk hk => by simp at hk, h⟩
  | cons o L ih =>
    intro hs a j0 h
    rcases h with ⟨C0, mk0, hj, hg0, hru, hr⟩ | ⟨hj, u, hdp, hg, hr⟩
    · obtain ⟨A, hA0, hA1, hA2, hA4, hA3⟩ := ih (fun j o' ho' => hs (j + 1) o' (by simpa using ho')) _ hr
      refine ⟨fun v k => match k with | 0 => a v | k + 1 => A v k, fun _ => rfl, fun k o' hk hF => ?_, fun k o' hk hF v => ?_, fun k o' C mk hk hF => ?_, hA3⟩
      · cases k with
        | zero =>
          rw [Nat.add_zero, hj] at hF; cases hF
        | succ k =>
          have := hA1 k o' (by simpa using hk) (by rw [show j0 + 1 + k = j0 + (k + 1) by omega]; exact hF)
          rw [show j0 + 1 + k = j0 + (k + 1) by omega] at this
          exact this
      · cases k with
        | zero =>
          simp at hk
          subst hk
          show A v 0 = (a v).put o.dst (v (j0 + 0))
          rw [hA0]; rfl
        | succ k =>
          have := hA2 k o' (by simpa using hk) (by rw [show j0 + 1 + k = j0 + (k + 1) by omega]; exact hF) v
          rw [show j0 + 1 + k = j0 + (k + 1) by omega] at this
          exact this
      · cases k with
        | zero =>
          simp at hk
          subst hk
          rw [Nat.add_zero, hj] at hF
          cases hF
          exact ⟨hg0, fun v b x hb => hru v b x hb⟩
        | succ k => exact hA4 k o' C mk (by simpa using hk) (by rw [show j0 + 1 + k = j0 + (k + 1) by omega]; exact hF)
    · obtain ⟨A, hA0, hA1, hA2, hA4, hA3⟩ := ih (fun j o' ho' => hs (j + 1) o' (by simpa using ho')) _ hr
      refine ⟨fun v k => match k with | 0 => a v | k + 1 => A v k, fun _ => rfl, fun k o' hk hF => ?_, fun k o' hk hF v => ?_, fun k o' C mk hk hF => ?_, hA3⟩
      · cases k with
        | zero =>
          simp at hk
          subst hk
          exact ⟨u, hdp, fun v => ⟨by show A v 0 = _; rw [hA0], gives_stepF (hg v) (hs 0 o rfl)⟩⟩
        | succ k =>
          have := hA1 k o' (by simpa using hk) (by rw [show j0 + 1 + k = j0 + (k + 1) by omega]; exact hF)
          rw [show j0 + 1 + k = j0 + (k + 1) by omega] at this
          exact this
      · cases k with
        | zero => exact absurd hj (by simpa using hF)
        | succ k =>
          have := hA2 k o' (by simpa using hk) (by rw [show j0 + 1 + k = j0 + (k + 1) by omega]; exact hF) v
          rw [show j0 + 1 + k = j0 + (k + 1) by omega] at this
          exact this
      · cases k with
        | zero => rw [Nat.add_zero, hj] at hF; cases hF
        | succ k => exact hA4 k o' C mk (by simpa using hk) (by rw [show j0 + 1 + k = j0 + (k + 1) by omega]; exact hF)
/-- **As wp_region_met; the operations that F names are allocations that may come anywhere.** -/
theorem wp_region_freesV (F : Nat → Option (Obj × (Nat → Value))) (m : Nat) {id : Nat} {a : Act} {w : World}
    (hfree : ∀ (j : Nat) (C : Obj) (mk : Nat → Value) (v : Nat → Value) (l : Array Bool) (x : World), F j = some (C, mk) → l.size = ops.size → l.getD j false = false → S v l x → S (updV v j (mk x.heap.size)) (l.setIfInBounds j true) (x.alloc C))
    (hm : P.follows .mixedOrders = true) (hok : seqOk ops = true) (ht : tailOk ops m = true) (hms : m ≤ ops.size) (v0 : Nat → Value) (hS : S v0 (Array.replicate ops.size false) w.drew)
    (h : WalkedV P ops S F ops.size (fun v a' => ∀ l w', l.size = ops.size → (∀ k, k < m → l.getD k false = true) → S v l w' → wpList P ops Q (ops.toList.drop m) a' w') (ops.toList.take m) 0 (fun _ => a)) : (Code.region id ops true).wp P Q a w := by
  obtain ⟨A, hA0, hA1, hA2, hA4, hQ⟩ := walkedV_chain (fun j o ho => (seqOk_spec (j := j) hok (by rw [List.getElem?_take] at ho; split at ho; (· simpa using ho); (· cases ho))).1) _ h
  have hA' : ∀ k o, k < m → ops[k]? = some o → F k = none → ∃ u : (Nat → Value) → Value, (∀ v i x l, AllMet ops l k → l.getD i false = false → u (updV v i x) = u v) ∧ ∀ v, A v (k + 1) = (A v k).put o.dst (u v) ∧ ∀ (l : Array Bool) (b : Act) (w : World) (K : Act → World → Prop) (Q : Exit → Act → World → Prop), Agree ops o (A v k) b → l.size = ops.size → l.getD k false = false → AllMet ops l k → S v l w →
      (∀ w', S v (l.setIfInBounds k true) w' → K (b.put o.dst (u v)) w') → (if Region.wanted o (yielded ops b.tmps) then o.wp P b w K Q ∨ (o.asks P b w ∧ LetsOut Q) else K (b.put o.dst undef) w) := fun k o hk ho hkF => by
    simpa using hA1 k o (by rw [List.getElem?_take, if_pos hk]; simpa using ho) (by rw [Nat.zero_add]; exact hkF)
  have hAF : ∀ k o v, k < m → ops[k]? = some o → F k ≠ none → A v (k + 1) = (A v k).put o.dst (v k) := fun k o v hk ho hkF => by
    have := hA2 k o (by rw [List.getElem?_take, if_pos hk]; simpa using ho) (by rw [Nat.zero_add]; exact hkF) v
    rw [Nat.zero_add] at this
    exact this
  have hAR : ∀ k o C mk, k < m → ops[k]? = some o → F k = some (C, mk) → o.guard = none ∧ ∀ (v : Nat → Value) (b : Act) (x : World), Agree ops o (A v k) b → (execOp b.eval o).run P x = .ok (.value (mk x.heap.size)) (x.alloc C) := fun k o C mk hk ho hkF => by
    have := hA4 k o C mk (by rw [List.getElem?_take, if_pos hk]; simpa using ho) (by rw [Nat.zero_add]; exact hkF)
    exact this
  have hAll : ∀ v k o, k < m → ops[k]? = some o → ∃ u, A v (k + 1) = (A v k).put o.dst u := fun v k o hk ho => by
    cases hkF : F k with
    | some C => exact ⟨v k, hAF k o v hk ho (by rw [hkF]; simp)⟩
    | none =>
      obtain ⟨u, -, hu⟩ := hA' k o hk ho hkF
      exact ⟨u v, (hu v).1⟩
  have hlen : (ops.toList.take m).length = m := by simp [Nat.min_eq_left hms]
  rw [hlen] at hQ
  have asz : ∀ v k, k ≤ m → (A v k).tmps.size = a.tmps.size ∧ (A v k).defers = a.defers := by
    intro v k
    induction k with
    | zero => intro _; rw [hA0 v]; exact ⟨rfl, rfl⟩
    | succ k ih =>
      intro hk
      obtain ⟨u, hv⟩ := hAll v k _ (by omega) (Array.getElem?_eq_getElem (show k < ops.size by omega))
      obtain ⟨i1, i2⟩ := ih (by omega)
      rw [hv, put_size, put_defs]; exact ⟨i1, i2⟩
  have far : ∀ v k t n, k ≤ n → n ≤ m → (∀ i o, k ≤ i → i < n → ops[i]? = some o → o.dst ≠ some t) → (A v n).tmps[t]? = (A v k).tmps[t]? := by
    intro v k t n
    induction n with
    | zero => intro h1 _ _; rw [show k = 0 by omega]
    | succ n ih =>
      intro h1 h2 hno
      by_cases hkm : k = n + 1
      · rw [hkm]
      · obtain ⟨u, hv⟩ := hAll v n _ (by omega) (Array.getElem?_eq_getElem (show n < ops.size by omega))
        rw [hv, put_ne (hno n _ (by omega) (by omega) (Array.getElem?_eq_getElem (show n < ops.size by omega)))]
        exact ih (by omega) (by omega) (fun i o hi hi' ho => hno i o hi (by omega) ho)
  have unlike : ∀ (i j : Nat) (oi oj : Oper) (t : Tmp), ops[i]? = some oi → ops[j]? = some oj → oi.dst = some t → oj.dst = some t → i = j := by
    intro i j oi oj t hi hj ti tj
    by_cases e : i = j
    · exact e
    · exact absurd tj (((seqOk_spec hok hj).2.2 i oi hi e t ti).1)
  have same : ∀ (v : Nat → Value) (j : Nat) (x : Value) (l : Array Bool) (k : Nat) (o : Oper) (t : Tmp), ops[k]? = some o → k < m → k ≠ j → AllMet ops l k → l.getD j false = false → o.dst = some t → (A (updV v j x) m).tmps[t]? = (A v m).tmps[t]? := by
    intro v j x l k o t ho hk hkj hmk hlj ht
    obtain ⟨u, hu1, hu2⟩ : ∃ u, A (updV v j x) (k + 1) = (A (updV v j x) k).put o.dst u ∧ A v (k + 1) = (A v k).put o.dst u := by
      cases hF : F k with
      | some C => exact ⟨v k, by rw [← updV_ne (v := v) x hkj]; exact hAF k o _ hk ho (by rw [hF]; simp), hAF k o v hk ho (by rw [hF]; simp)⟩
      | none =>
        obtain ⟨u, hd, hu⟩ := hA' k o hk ho hF
        exact ⟨u v, by rw [← hd v j x l hmk hlj]; exact (hu _).1, (hu v).1⟩
    have hno : ∀ i oi, k + 1 ≤ i → i < m → ops[i]? = some oi → oi.dst ≠ some t := fun i oi hi _ hoi hti => by
      have : i = k := unlike i k oi o t hoi ho hti ht
      omega
    rw [far _ (k + 1) t m (by omega) (Nat.le_refl _) hno, far v (k + 1) t m (by omega) (Nat.le_refl _) hno, hu1, hu2, ht]
    exact put_at (by rw [(asz v k (by omega)).1, (asz _ k (by omega)).1])
  have main : ∀ (fuel : Nat) (listed : Array Bool) (b : Act) (w : World), ((List.range m).filter (fun k => !listed.getD k true)).length + (ops.size - m) ≤ fuel →
      (∃ v, Midway ops a (A v m) listed b ∧ S v listed w) → (∀ k, listed.getD k false = true → k < m) → wpAny P .any ops Q fuel listed b w := by
    intro fuel
    induction fuel with
    | zero =>
      intro listed b w hf hMw hin
      obtain ⟨vv, hM, hw⟩ := hMw
      have hall : ∀ k, k < m → listed.getD k false = true := by
        intro k hk
        have hnil : (List.range m).filter (fun k => !listed.getD k true) = [] := List.length_eq_zero_iff.1 (by omega)
        have := (List.filter_eq_nil_iff.1 hnil) k (List.mem_range.2 hk)
        have hkl : k < listed.size := by rw [hM.len]; omega
        simpa [hkl] using this
      have hfin : b = A vv m := by
        refine act_ext (Array.ext_getElem? fun t => ?_) (by rw [hM.defers, (asz vv _ (Nat.le_refl _)).2])
        by_cases hx : ∃ (k : Nat) (o : Oper), k < m ∧ ops[k]? = some o ∧ o.dst = some t
        · obtain ⟨k, o, hk, ho, ht⟩ := hx
          exact hM.done k o t ho (hall k hk) ht
        · rw [hM.left t (fun k o ho hl ht => hx ⟨k, o, hin k hl, ho, ht⟩), far vv 0 t m (by omega) (Nat.le_refl _) (fun i o _ hi ho ht => hx ⟨i, o, hi, ho, ht⟩), hA0 vv]
      rw [hfin]
      exact forced hok ht (ops.size - m) m 0 listed _ w rfl (by omega) (Nat.le_refl _) hms ⟨hM.len, fun i _ => ⟨fun e => hin i e, fun e => hall i e⟩⟩ hM.closed (hQ vv listed w hM.len hall hw)
    | succ fuel ih =>
      intro listed b w hf hMw hin
      obtain ⟨vv, hM, hw⟩ := hMw
      by_cases hall : ∀ k, k < m → listed.getD k false = true
      · have hfin : b = A vv m := by
          refine act_ext (Array.ext_getElem? fun t => ?_) (by rw [hM.defers, (asz vv _ (Nat.le_refl _)).2])
          by_cases hx : ∃ (k : Nat) (o : Oper), k < m ∧ ops[k]? = some o ∧ o.dst = some t
          · obtain ⟨k, o, hk, ho, ht⟩ := hx
            exact hM.done k o t ho (hall k hk) ht
          · rw [hM.left t (fun k o ho hl ht => hx ⟨k, o, hin k hl, ho, ht⟩), far vv 0 t m (by omega) (Nat.le_refl _) (fun i o _ hi ho ht => hx ⟨i, o, hi, ho, ht⟩), hA0 vv]
        rw [hfin]
        exact forced hok ht (ops.size - m) m (fuel + 1) listed _ w rfl (by omega) (Nat.le_refl _) hms ⟨hM.len, fun i _ => ⟨fun e => hin i e, fun e => hall i e⟩⟩ hM.closed (hQ vv listed w hM.len hall hw)
      · refine ⟨fun hnil => absurd ?_ hall, fun j hj => ?_⟩
        · -- nothing may come up: then all has
          have hall' : ∀ n k, k < n → k < m → listed.getD k false = true := by
            intro n
            induction n with
            | zero => intro k hk; omega
            | succ n ihn =>
              intro k hk hs
              by_cases hl : listed.getD k false = true
              · exact hl
              · exfalso
                have hks : k < ops.size := by omega
                have hkl : k < listed.size := by rw [hM.len]; exact hks
                have hmem : k ∈ Region.ready .any ops listed := mem_ready.2 ⟨by simpa [hkl] using hl, _, Array.getElem?_eq_getElem hks, fun e he hb => by
                  have hlt := (seqOk_spec hok (Array.getElem?_eq_getElem hks)).2.1 e he hb
                  exact ihn e.on (by omega) (by omega)⟩
                rw [hnil] at hmem
                cases hmem
          exact fun k hk => hall' _ k (Nat.lt_succ_self k) hk
        · obtain ⟨hjun, o, ho, hedges⟩ := mem_ready.1 hj
          have hjs : j < ops.size := (Array.getElem?_eq_some_iff.1 ho).1
          have hjl : j < listed.size := by rw [hM.len]; exact hjs
          have hjun' : listed.getD j false = false := by simpa [hjl] using hjun
          have hmet : AllMet ops listed j := fun o' ho' e he hb => by
            rw [ho] at ho'
            cases ho'
            exact hedges e he hb
          have hjm : j < m := by
            refine Nat.lt_of_not_le fun hle => hall fun k hk => ?_
            exact met_bit hM.closed k (j + 1) j (by omega) hjs hmet (tailOk_spec ht hjs hle (by omega))
          have hag : Agree ops o (A vv j) b := by
            refine ⟨by rw [hM.size, (asz vv j (by omega)).1], fun t ht => ?_⟩
            by_cases hx : ∃ (i : Nat) (oi : Oper), ops[i]? = some oi ∧ oi.dst = some t
            · obtain ⟨i, oi, hi, hti⟩ := hx
              by_cases hij : i = j
              · rw [hM.left t (fun k ok hk hlk htk => by
                  have : k = i := unlike k i ok oi t hk hi htk hti
                  rw [this, hij, hjun'] at hlk
                  cases hlk), far vv 0 t j (by omega) (by omega) (fun k ok _ hk hok' htk => by
                  have : k = i := unlike k i ok oi t hok' hi htk hti
                  omega), hA0 vv]
              · rcases ((seqOk_spec hok ho).2.2 i oi hi hij t hti).2 ht with ⟨hlt, hbit⟩ | ⟨hlt, hbit⟩
                · have hli := met_bit hM.closed i (j + 1) j (by omega) hjs hmet hbit
                  rw [hM.done i oi t hi hli hti]
                  exact far vv j t m (by omega) (Nat.le_refl _) (fun k ok hk _ hok' htk => by
                    have : k = i := unlike k i ok oi t hok' hi htk hti
                    omega)
                · have hun : listed.getD i false ≠ true := fun hli => by
                    have his : i < ops.size := (Array.getElem?_eq_some_iff.1 hi).1
                    have := met_bit hM.closed j (i + 1) i (by omega) his (hM.closed i hli) hbit
                    rw [hjun'] at this
                    cases this
                  rw [hM.left t (fun k ok hk hlk htk => by
                    have : k = i := unlike k i ok oi t hk hi htk hti
                    rw [this] at hlk
                    exact hun hlk), far vv 0 t j (by omega) (by omega) (fun k ok _ hk hok' htk => by
                    have : k = i := unlike k i ok oi t hok' hi htk hti
                    omega), hA0 vv]
            · rw [hM.left t (fun k ok hk _ htk => hx ⟨k, ok, hk, htk⟩), far vv 0 t j (by omega) (by omega) (fun k ok _ _ hk htk => hx ⟨k, ok, hk, htk⟩), hA0 vv]
          cases hjF : F j with
          | some Cm =>
            obtain ⟨C, mk⟩ := Cm
            obtain ⟨hgd, hrunj⟩ := hAR j o C mk hjm ho hjF
            have hM' : Midway ops a (A (updV vv j (mk w.heap.size)) m) (listed.setIfInBounds j true) (b.put o.dst (mk w.heap.size)) := by
              refine ⟨by rw [put_size, hM.size], by rw [put_defs, hM.defers], by rw [Array.size_setIfInBounds, hM.len], fun y hy => ?_, fun k ok t hk hlk htk => ?_, fun t hno => ?_⟩
              · intro oy hoy e he hb
                by_cases hyj : j = y
                · subst hyj
                  exact getD_set_true (hmet oy hoy e he hb)
                · rw [getD_set_ne false hyj] at hy
                  exact getD_set_true (hM.closed y hy oy hoy e he hb)
              · by_cases hkj : j = k
                · subst hkj
                  rw [ho] at hk
                  cases hk
                  rw [far (updV vv j (mk w.heap.size)) (j + 1) t m (by omega) (Nat.le_refl _) (fun i oi hi _ hoi hti => by
                    have : i = j := unlike i j oi o t hoi ho hti htk
                    omega), hAF j o _ hjm ho (by rw [hjF]; simp), htk, updV_same]
                  exact put_at (by rw [(asz (updV vv j (mk w.heap.size)) j (by omega)).1, hM.size])
                · rw [getD_set_ne false hkj] at hlk
                  rw [put_ne (fun e => hkj (unlike j k o ok t ho hk e htk)), hM.done k ok t hk hlk htk]
                  exact (same vv j _ listed k ok t hk (hin k hlk) (fun e => hkj e.symm) (fun o' ho' e he hb => hM.closed k hlk o' ho' e he hb) hjun' htk).symm
              · have hjt : o.dst ≠ some t := hno j o ho (by simp [hjl])
                rw [put_ne hjt]
                refine hM.left t (fun k ok hk hlk => hno k ok hk ?_)
                exact getD_set_true hlk
            unfold wpOp
            simp only [ho]
            have hwant : Region.wanted o (yielded ops b.tmps) = true := by unfold Region.wanted; rw [hgd]
            rw [if_pos hwant]
            refine .inl ?_
            unfold Oper.wp
            rw [hrunj vv b w hag]
            show wpAny _ _ _ _ _ _ _ _
            refine ih _ _ _ ?_ ⟨_, hM', hfree j C mk vv listed w hjF hM.len hjun' hw⟩ (fun k hk => ?_)
            · have := count_lt (p := fun k => !listed.getD k true) (q := fun k => !(listed.setIfInBounds j true).getD k true) (fun k hk => by
                by_cases hkj : j = k
                · subst hkj; simp [hjun]
                · rw [getD_set_ne true hkj] at hk; exact hk) (j := j) (by simp [hjun]) (by simp [hjl]) (List.mem_range.2 hjm)
              omega
            · by_cases hkj : j = k
              · omega
              · rw [getD_set_ne false hkj] at hk
                exact hin k hk
          | none =>
            obtain ⟨u, -, hAv⟩ := hA' j o hjm ho hjF
            obtain ⟨hv, step⟩ := hAv vv
            generalize u vv = v at hv step
            have hM' : Midway ops a (A vv m) (listed.setIfInBounds j true) (b.put o.dst v) := by
              refine ⟨by rw [put_size, hM.size], by rw [put_defs, hM.defers], by rw [Array.size_setIfInBounds, hM.len], fun y hy => ?_, fun k ok t hk hlk htk => ?_, fun t hno => ?_⟩
              · intro oy hoy e he hb
                by_cases hyj : j = y
                · subst hyj
                  exact getD_set_true (hmet oy hoy e he hb)
                · rw [getD_set_ne false hyj] at hy
                  exact getD_set_true (hM.closed y hy oy hoy e he hb)
              · by_cases hkj : j = k
                · subst hkj
                  rw [ho] at hk
                  cases hk
                  rw [htk, put_at (b := A vv j) (by rw [hM.size, (asz vv j (by omega)).1]), ← htk, ← hv]
                  exact (far vv (j + 1) t m (by omega) (Nat.le_refl _) (fun i oi hi _ hoi hti => by
                    have : i = j := unlike i j oi o t hoi ho hti htk
                    omega)).symm
                · rw [getD_set_ne false hkj] at hlk
                  rw [put_ne (fun e => hkj (unlike j k o ok t ho hk e htk))]
                  exact hM.done k ok t hk hlk htk
              · have hjt : o.dst ≠ some t := hno j o ho (by simp [hjl])
                rw [put_ne hjt]
                refine hM.left t (fun k ok hk hlk => hno k ok hk ?_)
                exact getD_set_true hlk
            unfold wpOp
            simp only [ho]
            refine step listed b w _ Q hag hM.len hjun' hmet hw (fun w' hw' => ih _ _ w' ?_ ⟨vv, hM', hw'⟩ (fun k hk => ?_))
            · have := count_lt (p := fun k => !listed.getD k true) (q := fun k => !(listed.setIfInBounds j true).getD k true) (fun k hk => by
                by_cases hkj : j = k
                · subst hkj; simp [hjun]
                · rw [getD_set_ne true hkj] at hk; exact hk) (j := j) (by simp [hjun]) (by simp [hjl]) (List.mem_range.2 hjm)
              omega
            · by_cases hkj : j = k
              · omega
              · rw [getD_set_ne false hkj] at hk
                exact hin k hk
  refine wp_region_any hm (main ops.size _ a w.drew ?_ ⟨v0, ?_, hS⟩ ?_)
  · have := List.length_filter_le (fun k => !(Array.replicate ops.size false).getD k true) (List.range m)
    simp only [List.length_range] at this
    omega
  · refine ⟨rfl, rfl, by simp, fun y hy => ?_, fun k o t ho hk _ => ?_, fun t _ => rfl⟩
    · simp [Array.getElem?_replicate] at hy
      split at hy <;> simp at hy
    · simp [Array.getElem?_replicate] at hk
      split at hk <;> simp at hk
  · intro k hk
    simp [Array.getElem?_replicate] at hk
    split at hk <;> simp at hk
theorem walkedV_cons {F : Nat → Option (Obj × (Nat → Value))} {n j : Nat} {Qf : (Nat → Value) → Act → Prop} {o : Oper} {r : List Oper} {a : (Nat → Value) → Act} (u : Value) (hj : F j = none) (hg : ∀ v, GivesM P ops (S v) n j o (a v) ((a v).put o.dst u)) (hr : WalkedV P ops S F n Qf r (j + 1) (fun v => (a v).put o.dst u)) : WalkedV P ops S F n Qf (o :: r) j a := .inr ⟨hj, fun _ => u, fun _ _ _ _ _ _ => rfl, hg, hr⟩
/-- An operation whose value hangs on that of the free operation d, which it waits for. -/
theorem walkedV_dep {F : Nat → Option (Obj × (Nat → Value))} {n j : Nat} {Qf : (Nat → Value) → Act → Prop} {o : Oper} {r : List Oper} {a : (Nat → Value) → Act} (d : Nat) (u : Value → Value) (hd : ∀ l, AllMet ops l j → l.getD d false = true) (hj : F j = none) (hg : ∀ v, GivesM P ops (S v) n j o (a v) ((a v).put o.dst (u (v d)))) (hr : WalkedV P ops S F n Qf r (j + 1) (fun v => (a v).put o.dst (u (v d)))) : WalkedV P ops S F n Qf (o :: r) j a :=
  .inr ⟨hj, fun v => u (v d), fun v i x l hl hi => by
    have := hd l hl
    show u (updV v i x d) = u (v d)
    rw [updV_ne _ (fun e => by rw [e, hi] at this; cases this)], hg, hr⟩
theorem walkedV_free {F : Nat → Option (Obj × (Nat → Value))} {n j : Nat} {Qf : (Nat → Value) → Act → Prop} {o : Oper} {r : List Oper} {a : (Nat → Value) → Act} (C : Obj) (mk : Nat → Value) (hj : F j = some (C, mk)) (hg : o.guard = none) (hrun : ∀ (v : Nat → Value) (b : Act) (x : World), Agree ops o (a v) b → (execOp b.eval o).run P x = .ok (.value (mk x.heap.size)) (x.alloc C)) (hr : WalkedV P ops S F n Qf r (j + 1) (fun v => (a v).put o.dst (v j))) : WalkedV P ops S F n Qf (o :: r) j a := .inl ⟨C, mk, hj, hg, hrun, hr⟩
theorem walkedV_nil {F : Nat → Option (Obj × (Nat → Value))} {n j : Nat} {Qf : (Nat → Value) → Act → Prop} {a : (Nat → Value) → Act} (h : ∀ v, Qf v (a v)) : WalkedV P ops S F n Qf [] j a := h
end
end
/-- A slice literal of one-cell values. -/
theorem walkedV_lit {P : Program} {ops : Array Oper} {S : (Nat → Value) → Array Bool → World → Prop} {F : Nat → Option (Obj × (Nat → Value))} {n j : Nat} {Qf : (Nat → Value) → Act → Prop} {o : Oper} {r : List Oper} {a : (Nat → Value) → Act}
    (t e : TypeId) (len : Nat) (parts : Array (Nat × Operand)) (ho : o.op = .buildSlice t len parts) (hg : o.guard = none) (z : Value) (hu : P.underlying t = some (.slice e)) (hi : (P.info? e).map (fun i => (i.zero, i.size)) = some (some z, 1))
    (hl : 0 < len ∧ len ≤ 1000) (cells : Array Value) (hf : ∀ v, Instr.fill (fun i => some (i * 1, 1)) ((Array.range (len * 1)).map (z.cells[· % z.cells.size]!)) (parts.map fun (i, x) => (i, (a v).eval x)).toList = some cells)
    (hj : F j = some (.cells cells e, fun n => .slice (some ⟨n, 0, none⟩) len len)) (hr : WalkedV P ops S F n Qf r (j + 1) (fun v => (a v).put o.dst (v j))) : WalkedV P ops S F n Qf (o :: r) j a := by
  obtain ⟨ie, hie, hp⟩ := Option.map_eq_some_iff.1 hi
  obtain ⟨hz, hs⟩ := Prod.mk.inj hp
  refine walkedV_free _ _ hj hg (fun v b x hb => ?_) hr
  rw [agree_eval hb (fun cs c e => by rw [ho] at e; cases e)]
  unfold execOp
  simp only [ho, Sem.run_bind, run_buildSlice x t e len _ cells ie z hu hie hz (by rw [hs]; omega) (by rw [hs]; omega) (by rw [hs]; exact hf v), Result.andThen_ok]
  rfl
/-- The address of a slice's element. -/
def idxU (i : Nat) : Value → Value
  | .slice (some ⟨b, o, q⟩) _ _ => .pointer (some ⟨b, o + i, q⟩)
  | _ => undef
theorem idxU_eq (i r n c : Nat) : idxU i (.slice (some ⟨r, 0, none⟩) n c) = .pointer (some ⟨r, i, none⟩) := by show Value.pointer (some ⟨r, 0 + i, none⟩) = _; rw [Nat.zero_add]
/-! Slice literals in a drawn statement: (operation, cells, type). -/
def SlcS (W : World) (L : List (Nat × Array Value × TypeId)) (v : Nat → Value) (l : Array Bool) (x : World) : Prop :=
  Old W x ∧ ∀ e ∈ L, l.getD e.1 false = true → ∃ r, v e.1 = .slice (some ⟨r, 0, none⟩) e.2.1.size e.2.1.size ∧ W.heap.size ≤ r ∧ x.heap[r]? = some (.cells e.2.1 e.2.2)
def slcF (L : List (Nat × Array Value × TypeId)) (j : Nat) : Option (Obj × (Nat → Value)) := (L.find? (fun e => e.1 == j)).map (fun e => (.cells e.2.1 e.2.2, fun n => .slice (some ⟨n, 0, none⟩) e.2.1.size e.2.1.size))
section
variable {W x y : World} {L : List (Nat × Array Value × TypeId)} {v : Nat → Value} {l : Array Bool} {n : Nat}
theorem slc_start (h : Old W x) : SlcS W L v (Array.replicate n false) x := ⟨h, fun e _ hl => by
  have : (Array.replicate n false).getD e.1 false = false := by simp [Array.getElem?_replicate]; split <;> rfl
  rw [this] at hl; cases hl⟩
theorem slc_other (j : Nat) (hj : ∀ e ∈ L, j ≠ e.1) (h : SlcS W L v l x) : SlcS W L v (l.setIfInBounds j true) x :=
  ⟨h.1, fun e he hl => h.2 e he (by rwa [getD_set_ne false (hj e he)] at hl)⟩
theorem slc_free (hone : ∀ e ∈ L, ∀ e' ∈ L, e.1 = e'.1 → e = e') (j : Nat) (C : Obj) (mk : Nat → Value) (v : Nat → Value) (l : Array Bool) (x : World) (hF : slcF L j = some (C, mk)) (hz : l.size = n) (hn : l.getD j false = false) (h : SlcS W L v l x) :
    SlcS W L (updV v j (mk x.heap.size)) (l.setIfInBounds j true) (x.alloc C) := by
  unfold slcF at hF
  obtain ⟨e, hf, he⟩ := Option.map_eq_some_iff.1 hF
  have hmem := List.mem_of_find?_eq_some hf
  have hej : e.1 = j := by have := List.find?_some hf; simpa using this
  obtain ⟨rfl, rfl⟩ := Prod.mk.inj he
  refine ⟨old_alloc h.1 _, fun e' he' hl => ?_⟩
  by_cases hjj : e'.1 = j
  · have : e' = e := hone e' he' e hmem (by rw [hjj, hej])
    subst this
    exact ⟨x.heap.size, by rw [← hej, updV_same], h.1.size, new_block _ _⟩
  · rw [getD_set_ne false (Ne.symm hjj)] at hl
    obtain ⟨r, a, b, c⟩ := h.2 e' he' hl
    exact ⟨r, by rw [updV_ne _ hjj]; exact a, b, keep_old (old_alloc (old_refl _) _) c⟩
/-- Which operation has another one ahead. -/
def OrdS (O : List (Nat × Nat)) (l : Array Bool) : Prop := ∀ p ∈ O, l.getD p.1 false = true → l.getD p.2 false = true
theorem ord_start (O : List (Nat × Nat)) (n : Nat) : OrdS O (Array.replicate n false) := fun p _ hl => by
  have : (Array.replicate n false).getD p.1 false = false := by simp [Array.getElem?_replicate]; split <;> rfl
  rw [this] at hl; cases hl
theorem ord_set {O : List (Nat × Nat)} (j : Nat) (h : OrdS O l) (hj : ∀ p ∈ O, p.1 = j → l.getD p.2 false = true) : OrdS O (l.setIfInBounds j true) := fun p hp hl => by
  by_cases e : p.1 = j
  · exact getD_set_true (hj p hp e)
  · rw [getD_set_ne false (Ne.symm e)] at hl
    exact getD_set_true (h p hp hl)
theorem slcF_in {j : Nat} {C : Obj × (Nat → Value)} (hF : slcF L j = some C) : j ∈ L.map (·.1) := by
  unfold slcF at hF
  obtain ⟨e, hf, -⟩ := Option.map_eq_some_iff.1 hF
  have hej : e.1 = j := by have := List.find?_some hf; simpa using this
  exact List.mem_map.2 ⟨e, List.mem_of_find?_eq_some hf, hej⟩
/-- Slice literals, and the order of what reads them. -/
def SlcO (W : World) (L : List (Nat × Array Value × TypeId)) (O : List (Nat × Nat)) (v : Nat → Value) (l : Array Bool) (x : World) : Prop := SlcS W L v l x ∧ OrdS O l
theorem slc_get (h : SlcS W L v l x) (e : Nat × Array Value × TypeId) (he : e ∈ L) (hl : l.getD e.1 false = true) : ∃ r, v e.1 = .slice (some ⟨r, 0, none⟩) e.2.1.size e.2.1.size ∧ W.heap.size ≤ r ∧ x.heap[r]? = some (.cells e.2.1 e.2.2) := h.2 e he hl
end
end Go.Proofs.Ytlbehhbicmmdoaa
namespace Go.Proofs.Ytlbehhbicmmdoaa
set_option linter.unusedVariables false
set_option linter.unusedSimpArgs false
open Go.RowKit
set_option maxHeartbeats 16000000 in
set_option maxRecDepth 100000 in
theorem nestedSeconds_walk (ad : Option Addr) (l : List Ed) (cap : Nat) (ti : Int) (ht0 : (Lit.int .u64 ti).wf = true) (pi : Int) (hp0 : (Lit.int .u64 pi).wf = true) (ac : Int) (_ : (Lit.int .i64 ac).wf = true) (w : World) (hN : l.length ≤ maxLen) (hE : Edits w ad l) :
    Calls Try.prog 11 #[.slice ad l.length cap, .int .u64 ti, .int .u64 pi, .int .i64 ac] w (RetB w (.bool true)) := by
  obtain ⟨two, rfl, htwo⟩ := wf_u64 ht0
  obtain ⟨ipa, rfl, hipa⟩ := wf_u64 hp0
  have hw := world14_calls w ad l cap hN hE
  obtain ⟨R, hR⟩ : ∃ R : Nat, R = ipa % 131072 := ⟨_, rfl⟩
  have hRi : (ipa : Int) % 131072 = (R : Int) := by rw [hR]; rfl
  obtain ⟨M, hM64, hM⟩ := u64_and_some (two : Int) 28672
  obtain ⟨sto, hsto⟩ : ∃ sto, decide (ac = 2) = sto := ⟨_, rfl⟩
  have HU := Lib.hid (And.intro htwo (And.intro hipa (And.intro (show R < 18446744073709551616 by omega) hM64)))
  have HST := Lib.hid hsto
  clear ht0 hp0 hN hE htwo hipa hR hM64 hsto
  go_enter Try.func11, Try.ntmps11
  go_wp2_with fail
  (with_reducible refine hw.mono ?_)
  rintro e x1 ⟨p, mb, wd, rfl, hS, -⟩
  have HS := Lib.hid (memS_less (memS_of hS) (B' := fun _ => False) (fun _ f => f.elim))
  clear hw hS
  go_wp2
  refine wp_loopF [false, false, false, false, false, false, false, false, true, false, false, true, true, true, true, true, true, true, true, true, false, false, false, false, false, false, false, false, false, false, false, false, false, true, true, true, true, true, true, true, true, true, true, true, true, true, true, true, true, true, true, true, true, true, true, true, true, true, true, true, true, true, true, true, true, true, true, true, true, true, true, true, true, true, true, true, true, true, true, true] (fun f wx => ∃ (z : Int) (N : Nat), f 11 = .int .i64 z ∧ (z = 0 ∨ z = 1 ∨ z = 2 ∨ z = 3) ∧ N = 100 + 4 * z.toNat ∧ MemS w p wd N (fun _ => False) wx) (fun f => 3 - (intOf (f 11)).toNat) ?start0 ?round0
  case start0 => exact ⟨0, _, rfl, .inl rfl, rfl, HS.out⟩
  case round0 =>
    intro f2 wq hrel J2 K2 hJ2 hM2
    dsimp only [mergeA, mergeL, Nat.reduceAdd]
    obtain ⟨z, N, h11, hz, hNz, hm⟩ := hrel
    rw [h11]
    have H11 := Lib.hid (And.intro h11 hNz)
    have HM := Lib.hid hm
    clear h11 hm HS hNz
    by_cases hz3 : z = 3
    · subst hz3
      clear hz
      have hc := second_nil two ipa ac wq
      rw [HST.out] at hc
      dsimp only [O8.cells, F5.cells, O0] at hc
      go_wp2_with fail
      (with_reducible refine hc.mono ?_)
      rintro e y5 ⟨rfl, hO5⟩
      have HO5 := Lib.hid hO5
      clear hc hO5
      obtain ⟨Y5, hY5, hOY5, hob3, hfb3, hsY5, i1, i2⟩ := pair_new y5 #[Value.int .i64 0, .int .u64 0, .bool false, .bool false, .bool false, .bool false, .bool false, .bool false] #[Value.int .i64 0, .int .i64 0, .int .i64 0, .int .u64 0, .bool false] #[Value.int .i64 0, .int .u64 0, .bool false, .bool false, .bool false, .bool false, .bool false, .bool false] #[Value.int .i64 2, .int .i64 4, .int .i64 (-1), .int .u64 (ipa : Nat), .bool sto] 65 67
      have HY5 := Lib.hid (And.intro hOY5 (And.intro hob3 (And.intro hfb3 hsY5)))
      have HEY5 := Lib.hid hY5
      have I1Y5 := Lib.hid i1
      have I2Y5 := Lib.hid i2
      clear hY5 hOY5 hob3 hfb3 hsY5 i1 i2
      go_upto_region 13 with (first | (refine wpList_store_whole rfl 65 _ _ rfl y5.heap.size [Value.int .i64 0, .int .u64 0, .bool false, .bool false, .bool false, .bool false, .bool false, .bool false] rfl rfl 65 _ I1Y5.out (by kernel_rfl) rfl (by intro v hv; simp only [List.mem_cons, List.not_mem_nil, or_false] at hv; rcases hv with rfl | rfl | rfl | rfl | rfl | rfl | rfl | rfl <;> rfl) ?_) | (refine wpList_store_whole rfl 67 _ _ rfl (y5.heap.size + 1) [Value.int .i64 2, .int .i64 4, .int .i64 (-1), .int .u64 (ipa : Nat), .bool sto] rfl rfl 67 _ I2Y5.out (by kernel_rfl) rfl (by intro v hv; simp only [List.mem_cons, List.not_mem_nil, or_false] at hv; rcases hv with rfl | rfl | rfl | rfl | rfl <;> rfl) ?_))
      rw [← HEY5.out]
      clear HEY5 I1Y5 I2Y5
      obtain ⟨fb3, hfb3⟩ : ∃ fb3, fb3 = y5.heap.size + 1 := ⟨_, rfl⟩
      obtain ⟨ob3, hob3⟩ : ∃ ob3, ob3 = y5.heap.size := ⟨_, rfl⟩
      rw [← hfb3, ← hob3]
      rw [← hfb3, ← hob3] at HY5
      have HBY5 := Lib.hid (And.intro hob3 hfb3)
      clear hfb3 hob3
      have hc := docSecond_nil (w := Y5) two ipa ac
      rw [HST.out] at hc
      dsimp only [O8.cells, F5.cells, O0] at hc
      go_wp2_with fail
      (with_reducible refine hc.mono ?_)
      rintro e y6 ⟨rfl, hO6⟩
      have HO6 := Lib.hid hO6
      clear hc hO6
      obtain ⟨Y6, hY6, hOY6, hob4, hfb4, hsY6, i1, i2⟩ := pair_new y6 #[Value.int .i64 0, .int .u64 0, .bool false, .bool false, .bool false, .bool false, .bool false, .bool false] #[Value.int .i64 0, .int .i64 0, .int .i64 0, .int .u64 0, .bool false] #[Value.int .i64 0, .int .u64 0, .bool false, .bool false, .bool false, .bool false, .bool false, .bool false] #[Value.int .i64 2, .int .i64 4, .int .i64 (-1), .int .u64 (ipa : Nat), .bool sto] 77 67
      have HY6 := Lib.hid (And.intro hOY6 (And.intro hob4 (And.intro hfb4 hsY6)))
      have HEY6 := Lib.hid hY6
      have I1Y6 := Lib.hid i1
      have I2Y6 := Lib.hid i2
      clear hY6 hOY6 hob4 hfb4 hsY6 i1 i2
      go_upto_region 14 with (first | (refine wpList_store_whole rfl 77 _ _ rfl y6.heap.size [Value.int .i64 0, .int .u64 0, .bool false, .bool false, .bool false, .bool false, .bool false, .bool false] rfl rfl 77 _ I1Y6.out (by kernel_rfl) rfl (by intro v hv; simp only [List.mem_cons, List.not_mem_nil, or_false] at hv; rcases hv with rfl | rfl | rfl | rfl | rfl | rfl | rfl | rfl <;> rfl) ?_) | (refine wpList_store_whole rfl 67 _ _ rfl (y6.heap.size + 1) [Value.int .i64 2, .int .i64 4, .int .i64 (-1), .int .u64 (ipa : Nat), .bool sto] rfl rfl 67 _ I2Y6.out (by kernel_rfl) rfl (by intro v hv; simp only [List.mem_cons, List.not_mem_nil, or_false] at hv; rcases hv with rfl | rfl | rfl | rfl | rfl <;> rfl) ?_))
      rw [← HEY6.out]
      clear HEY6 I1Y6 I2Y6
      obtain ⟨fb4, hfb4⟩ : ∃ fb4, fb4 = y6.heap.size + 1 := ⟨_, rfl⟩
      obtain ⟨ob4, hob4⟩ : ∃ ob4, ob4 = y6.heap.size := ⟨_, rfl⟩
      rw [← hfb4, ← hob4]
      rw [← hfb4, ← hob4] at HY6
      have HBY6 := Lib.hid (And.intro hob4 hfb4)
      clear hfb4 hob4
      have a1 := keep_old HY6.out.1 (keep_old HO6.out HY5.out.2.1)
      have a2 := keep_old HY6.out.1 (keep_old HO6.out HY5.out.2.2.1)
      have HA2 := Lib.hid (And.intro a1 (And.intro a2 (And.intro HY6.out.2.1 HY6.out.2.2.1)))
      have HOW := Lib.hid (memS_word (memS_old HM.out (old_then (old_then HO5.out HY5.out.1) (old_then HO6.out HY6.out.1))))
      clear a1 a2
      have ht := told14_calls Y6
      go_wp2_with fail
      (with_reducible refine ht.mono ?_)
      rintro e y7 ⟨rfl, hO7⟩
      obtain ⟨a1, a2, a3, a4⟩ := HA2.out
      obtain ⟨j1, -, -⟩ := of_block (keep_old hO7 a1)
      obtain ⟨j2, -, -⟩ := of_block (keep_old hO7 a2)
      obtain ⟨j3, -, -⟩ := of_block (keep_old hO7 a3)
      obtain ⟨j4, -, -⟩ := of_block (keep_old hO7 a4)
      have hc : Calls Try.prog 36 #[.agg #[Value.int .i64 0, .int .u64 0, .bool false, .bool false, .bool false, .bool false, .bool false, .bool false], .agg #[Value.int .i64 2, .int .i64 4, .int .i64 (-1), .int .u64 (ipa : Nat), .bool sto], .int .i64 0, .agg #[Value.int .i64 0, .int .u64 0, .bool false, .bool false, .bool false, .bool false, .bool false, .bool false], .agg #[Value.int .i64 2, .int .i64 4, .int .i64 (-1), .int .u64 (ipa : Nat), .bool sto], .int .i64 0] y7 (RetB y7 (.bool true)) := same14_calls O0 ⟨2, 4, -1, ipa, sto⟩ 0
      have HO7 := Lib.hid hO7
      clear ht hO7 a1 a2 a3 a4
      go_wp2_with fail
      (with_reducible refine hc.mono ?_)
      rintro e y8 ⟨rfl, hO8⟩
      have HO8 := Lib.hid (old_then HO7.out hO8)
      clear hc hO8 j1 j2 j3 j4
      go_wp2
      go_ret
      exact ⟨rfl, old_then HOW.out HO8.out⟩
    have hz2 : z = 0 ∨ z = 1 ∨ z = 2 := by omega
    have hzlt : z < 3 := by omega
    have hz0 : 0 ≤ z := by omega
    have HZ := Lib.hid hz2
    clear hz hz3 hz2
    go_upto_region 7 with (fail)
    refine wp_cutF [false, false, false, false, false, false, false, false, false, false, false, false, true, true, false, false, false, false, false, false, false, false, false, false, false, false, false, false, false, false, false, false, false, false, false, false, false, true, true, true, true, true, true, true, true, true, true, true, true, true, true, true, true] (fun f wx => ∃ (at_ rt : Nat), (at_ < 18446744073709551616 ∧ rt < 18446744073709551616) ∧ f 12 = .int .u64 (at_ : Nat) ∧ f 13 = .int .u64 (rt : Nat) ∧ Old wq wx) ?rest1 ?first1
    case first1 =>
      intro J1 K1 hJ1 hM1
      rcases HZ.out with h | h | h
      · subst h
        refine wp_region_freesV (S := SlcO wq [(5, #[.int .u64 (ipa : Nat), .int .u64 (R : Nat), .int .u64 (R : Nat)], 22), (12, #[.int .u64 (two : Nat), .int .u64 4096, .int .u64 (M : Nat)], 22)] [(7, 5), (14, 12)]) (slcF [(5, #[.int .u64 (ipa : Nat), .int .u64 (R : Nat), .int .u64 (R : Nat)], 22), (12, #[.int .u64 (two : Nat), .int .u64 4096, .int .u64 (M : Nat)], 22)]) 18 (fun j C mk v l x hF hz hn hS => And.intro (slc_free (n := 18) (by simp) j C mk v l x hF hz hn hS.1) (ord_set j hS.2 (by have h9 := slcF_in hF; simp at h9 ⊢; omega))) (by kernel_rfl) (by kernel_rfl) (by kernel_rfl) (by decide) (fun _ => undef) (And.intro (slc_start (old_drew (old_refl _))) (ord_start _ _)) ?_
        refine walkedV_cons (.int .u64 (ipa : Nat)) rfl (fun v => ?_) ?_
        · intro l9 wS hz hn hm hS
          have hS9 : SlcO _ _ _ _ _ _ := And.intro (slc_other 0 (by simp) hS.1) (ord_set 0 hS.2 (by simp))
          clear hS hm
          go_wp2
          exact ⟨rfl, by kernel_rfl, hS9⟩
        (try simp only [Act.put, List.setIfInBounds_toArray, List.set_cons_succ, List.set_cons_zero])
        refine walkedV_cons (.int .u64 (ipa : Nat)) rfl (fun v => ?_) ?_
        · intro l9 wS hz hn hm hS
          have hS9 : SlcO _ _ _ _ _ _ := And.intro (slc_other 1 (by simp) hS.1) (ord_set 1 hS.2 (by simp))
          clear hS hm
          go_wp2
          exact ⟨rfl, by kernel_rfl, hS9⟩
        (try simp only [Act.put, List.setIfInBounds_toArray, List.set_cons_succ, List.set_cons_zero])
        refine walkedV_cons (.int .u64 (R : Nat)) rfl (fun v => ?_) ?_
        · intro l9 wS hz hn hm hS
          have hS9 : SlcO _ _ _ _ _ _ := And.intro (slc_other 2 (by simp) hS.1) (ord_set 2 hS.2 (by simp))
          clear hS hm
          go_wp2
          exact ⟨rfl, by kernel_rfl, hS9⟩
        (try simp only [Act.put, List.setIfInBounds_toArray, List.set_cons_succ, List.set_cons_zero])
        refine walkedV_cons (.int .u64 (ipa : Nat)) rfl (fun v => ?_) ?_
        · intro l9 wS hz hn hm hS
          have hS9 : SlcO _ _ _ _ _ _ := And.intro (slc_other 3 (by simp) hS.1) (ord_set 3 hS.2 (by simp))
          clear hS hm
          go_wp2
          exact ⟨rfl, by kernel_rfl, hS9⟩
        (try simp only [Act.put, List.setIfInBounds_toArray, List.set_cons_succ, List.set_cons_zero])
        refine walkedV_cons (.int .u64 (R : Nat)) rfl (fun v => ?_) ?_
        · intro l9 wS hz hn hm hS
          have hS9 : SlcO _ _ _ _ _ _ := And.intro (slc_other 4 (by simp) hS.1) (ord_set 4 hS.2 (by simp))
          clear hS hm
          go_wp2
          exact ⟨rfl, by kernel_rfl, hS9⟩
        (try simp only [Act.put, List.setIfInBounds_toArray, List.set_cons_succ, List.set_cons_zero])
        refine walkedV_lit 24 22 3 #[(0, .tmp 37), (1, .tmp 39), (2, .tmp 41)] rfl rfl (.int .u64 0) Try.underlying24 (by kernel_rfl) (by decide) #[.int .u64 (ipa : Nat), .int .u64 (R : Nat), .int .u64 (R : Nat)] (fun v => by kernel_rfl) rfl ?_
        (try simp only [Act.put, List.setIfInBounds_toArray, List.set_cons_succ, List.set_cons_zero])
        refine walkedV_cons (.int .i64 0) rfl (fun v => ?_) ?_
        · intro l9 wS hz hn hm hS
          have hS9 : SlcO _ _ _ _ _ _ := And.intro (slc_other 6 (by simp) hS.1) (ord_set 6 hS.2 (by simp))
          clear hS hm
          go_wp2
          exact ⟨rfl, by kernel_rfl, hS9⟩
        (try simp only [Act.put, List.setIfInBounds_toArray, List.set_cons_succ, List.set_cons_zero])
        refine walkedV_dep 5 (idxU 0) (fun l hl => hl _ rfl ⟨5, .data⟩ (by simp) rfl) rfl (fun v => ?_) ?_
        · intro l9 wS hz hn hm hS
          obtain ⟨r9, hv9, -, -⟩ := slc_get hS.1 (5, #[.int .u64 (ipa : Nat), .int .u64 (R : Nat), .int .u64 (R : Nat)], 22) (by simp) (hm _ rfl ⟨5, .data⟩ (by simp) rfl)
          have hS9 : SlcO _ _ _ _ _ _ := And.intro (slc_other 7 (by simp) hS.1) (ord_set 7 hS.2 (by intro q hq he; simp only [List.mem_cons, List.not_mem_nil, or_false] at hq; rcases hq with rfl | rfl <;> first | exact hm _ rfl ⟨5, .data⟩ (by simp) rfl | exact absurd he (by decide)))
          clear hS hm
          rw [hv9, idxU_eq]
          clear hv9
          go_wp2
          exact ⟨rfl, by kernel_rfl, hS9⟩
        (try simp only [Act.put, List.setIfInBounds_toArray, List.set_cons_succ, List.set_cons_zero])
        refine walkedV_cons (.int .u64 (ipa : Nat)) rfl (fun v => ?_) ?_
        · intro l9 wS hz hn hm hS
          have hd9 : l9.getD 5 false = true := hS.2 (7, 5) (by simp) (hm _ rfl ⟨7, .data⟩ (by simp) rfl)
          obtain ⟨r9, hv9, -, hb9⟩ := slc_get hS.1 (5, #[.int .u64 (ipa : Nat), .int .u64 (R : Nat), .int .u64 (R : Nat)], 22) (by simp) hd9
          have hS9 : SlcO _ _ _ _ _ _ := And.intro (slc_other 8 (by simp) hS.1) (ord_set 8 hS.2 (by simp))
          obtain ⟨k9, -, -⟩ := of_block hb9
          clear hS hm hb9 hd9
          rw [hv9, idxU_eq]
          clear hv9
          go_wp2
          exact ⟨rfl, by kernel_rfl, hS9⟩
        (try simp only [Act.put, List.setIfInBounds_toArray, List.set_cons_succ, List.set_cons_zero])
        refine walkedV_cons (.int .u64 (two : Nat)) rfl (fun v => ?_) ?_
        · intro l9 wS hz hn hm hS
          have hS9 : SlcO _ _ _ _ _ _ := And.intro (slc_other 9 (by simp) hS.1) (ord_set 9 hS.2 (by simp))
          clear hS hm
          go_wp2
          exact ⟨rfl, by kernel_rfl, hS9⟩
        (try simp only [Act.put, List.setIfInBounds_toArray, List.set_cons_succ, List.set_cons_zero])
        refine walkedV_cons (.int .u64 (two : Nat)) rfl (fun v => ?_) ?_
        · intro l9 wS hz hn hm hS
          have hS9 : SlcO _ _ _ _ _ _ := And.intro (slc_other 10 (by simp) hS.1) (ord_set 10 hS.2 (by simp))
          clear hS hm
          go_wp2
          exact ⟨rfl, by kernel_rfl, hS9⟩
        (try simp only [Act.put, List.setIfInBounds_toArray, List.set_cons_succ, List.set_cons_zero])
        refine walkedV_cons (.int .u64 (M : Nat)) rfl (fun v => ?_) ?_
        · intro l9 wS hz hn hm hS
          have hS9 : SlcO _ _ _ _ _ _ := And.intro (slc_other 11 (by simp) hS.1) (ord_set 11 hS.2 (by simp))
          clear hS hm
          go_wp2
          exact ⟨rfl, by kernel_rfl, hS9⟩
        (try simp only [Act.put, List.setIfInBounds_toArray, List.set_cons_succ, List.set_cons_zero])
        refine walkedV_lit 24 22 3 #[(0, .tmp 46), (1, .const (.int .u64 4096)), (2, .tmp 48)] rfl rfl (.int .u64 0) Try.underlying24 (by kernel_rfl) (by decide) #[.int .u64 (two : Nat), .int .u64 4096, .int .u64 (M : Nat)] (fun v => by kernel_rfl) rfl ?_
        (try simp only [Act.put, List.setIfInBounds_toArray, List.set_cons_succ, List.set_cons_zero])
        refine walkedV_cons (.int .i64 0) rfl (fun v => ?_) ?_
        · intro l9 wS hz hn hm hS
          have hS9 : SlcO _ _ _ _ _ _ := And.intro (slc_other 13 (by simp) hS.1) (ord_set 13 hS.2 (by simp))
          clear hS hm
          go_wp2
          exact ⟨rfl, by kernel_rfl, hS9⟩
        (try simp only [Act.put, List.setIfInBounds_toArray, List.set_cons_succ, List.set_cons_zero])
        refine walkedV_dep 12 (idxU 0) (fun l hl => hl _ rfl ⟨12, .data⟩ (by simp) rfl) rfl (fun v => ?_) ?_
        · intro l9 wS hz hn hm hS
          obtain ⟨r9, hv9, -, -⟩ := slc_get hS.1 (12, #[.int .u64 (two : Nat), .int .u64 4096, .int .u64 (M : Nat)], 22) (by simp) (hm _ rfl ⟨12, .data⟩ (by simp) rfl)
          have hS9 : SlcO _ _ _ _ _ _ := And.intro (slc_other 14 (by simp) hS.1) (ord_set 14 hS.2 (by intro q hq he; simp only [List.mem_cons, List.not_mem_nil, or_false] at hq; rcases hq with rfl | rfl <;> first | exact hm _ rfl ⟨12, .data⟩ (by simp) rfl | exact absurd he (by decide)))
          clear hS hm
          rw [hv9, idxU_eq]
          clear hv9
          go_wp2
          exact ⟨rfl, by kernel_rfl, hS9⟩
        (try simp only [Act.put, List.setIfInBounds_toArray, List.set_cons_succ, List.set_cons_zero])
        refine walkedV_cons (.int .u64 (two : Nat)) rfl (fun v => ?_) ?_
        · intro l9 wS hz hn hm hS
          have hd9 : l9.getD 12 false = true := hS.2 (14, 12) (by simp) (hm _ rfl ⟨14, .data⟩ (by simp) rfl)
          obtain ⟨r9, hv9, -, hb9⟩ := slc_get hS.1 (12, #[.int .u64 (two : Nat), .int .u64 4096, .int .u64 (M : Nat)], 22) (by simp) hd9
          have hS9 : SlcO _ _ _ _ _ _ := And.intro (slc_other 15 (by simp) hS.1) (ord_set 15 hS.2 (by simp))
          obtain ⟨k9, -, -⟩ := of_block hb9
          clear hS hm hb9 hd9
          rw [hv9, idxU_eq]
          clear hv9
          go_wp2
          exact ⟨rfl, by kernel_rfl, hS9⟩
        (try simp only [Act.put, List.setIfInBounds_toArray, List.set_cons_succ, List.set_cons_zero])
        refine walkedV_cons (.int .u64 (ipa : Nat)) rfl (fun v => ?_) ?_
        · intro l9 wS hz hn hm hS
          have hS9 : SlcO _ _ _ _ _ _ := And.intro (slc_other 16 (by simp) hS.1) (ord_set 16 hS.2 (by simp))
          clear hS hm
          go_wp2
          exact ⟨rfl, by kernel_rfl, hS9⟩
        (try simp only [Act.put, List.setIfInBounds_toArray, List.set_cons_succ, List.set_cons_zero])
        refine walkedV_cons (.int .u64 (two : Nat)) rfl (fun v => ?_) ?_
        · intro l9 wS hz hn hm hS
          have hS9 : SlcO _ _ _ _ _ _ := And.intro (slc_other 17 (by simp) hS.1) (ord_set 17 hS.2 (by simp))
          clear hS hm
          go_wp2
          exact ⟨rfl, by kernel_rfl, hS9⟩
        (try simp only [Act.put, List.setIfInBounds_toArray, List.set_cons_succ, List.set_cons_zero])
        refine walkedV_nil fun v => ?_
        intro l9 y hz hall hS
        have HY := Lib.hid hS.1.1
        clear hS hall hz
        show wpList _ _ _ [] _ _
        go_wp2
        exact Met.intro (hJ1 _ _ (by kernel_rfl) ⟨ipa, two, ⟨HU.out.2.1, HU.out.1⟩, rfl, rfl, HY.out⟩)
      · subst h
        refine wp_region_freesV (S := SlcO wq [(5, #[.int .u64 (ipa : Nat), .int .u64 (R : Nat), .int .u64 (R : Nat)], 22), (12, #[.int .u64 (two : Nat), .int .u64 4096, .int .u64 (M : Nat)], 22)] [(7, 5), (14, 12)]) (slcF [(5, #[.int .u64 (ipa : Nat), .int .u64 (R : Nat), .int .u64 (R : Nat)], 22), (12, #[.int .u64 (two : Nat), .int .u64 4096, .int .u64 (M : Nat)], 22)]) 18 (fun j C mk v l x hF hz hn hS => And.intro (slc_free (n := 18) (by simp) j C mk v l x hF hz hn hS.1) (ord_set j hS.2 (by have h9 := slcF_in hF; simp at h9 ⊢; omega))) (by kernel_rfl) (by kernel_rfl) (by kernel_rfl) (by decide) (fun _ => undef) (And.intro (slc_start (old_drew (old_refl _))) (ord_start _ _)) ?_
        refine walkedV_cons (.int .u64 (ipa : Nat)) rfl (fun v => ?_) ?_
        · intro l9 wS hz hn hm hS
          have hS9 : SlcO _ _ _ _ _ _ := And.intro (slc_other 0 (by simp) hS.1) (ord_set 0 hS.2 (by simp))
          clear hS hm
          go_wp2
          exact ⟨rfl, by kernel_rfl, hS9⟩
        (try simp only [Act.put, List.setIfInBounds_toArray, List.set_cons_succ, List.set_cons_zero])
        refine walkedV_cons (.int .u64 (ipa : Nat)) rfl (fun v => ?_) ?_
        · intro l9 wS hz hn hm hS
          have hS9 : SlcO _ _ _ _ _ _ := And.intro (slc_other 1 (by simp) hS.1) (ord_set 1 hS.2 (by simp))
          clear hS hm
          go_wp2
          exact ⟨rfl, by kernel_rfl, hS9⟩
        (try simp only [Act.put, List.setIfInBounds_toArray, List.set_cons_succ, List.set_cons_zero])
        refine walkedV_cons (.int .u64 (R : Nat)) rfl (fun v => ?_) ?_
        · intro l9 wS hz hn hm hS
          have hS9 : SlcO _ _ _ _ _ _ := And.intro (slc_other 2 (by simp) hS.1) (ord_set 2 hS.2 (by simp))
          clear hS hm
          go_wp2
          exact ⟨rfl, by kernel_rfl, hS9⟩
        (try simp only [Act.put, List.setIfInBounds_toArray, List.set_cons_succ, List.set_cons_zero])
        refine walkedV_cons (.int .u64 (ipa : Nat)) rfl (fun v => ?_) ?_
        · intro l9 wS hz hn hm hS
          have hS9 : SlcO _ _ _ _ _ _ := And.intro (slc_other 3 (by simp) hS.1) (ord_set 3 hS.2 (by simp))
          clear hS hm
          go_wp2
          exact ⟨rfl, by kernel_rfl, hS9⟩
        (try simp only [Act.put, List.setIfInBounds_toArray, List.set_cons_succ, List.set_cons_zero])
        refine walkedV_cons (.int .u64 (R : Nat)) rfl (fun v => ?_) ?_
        · intro l9 wS hz hn hm hS
          have hS9 : SlcO _ _ _ _ _ _ := And.intro (slc_other 4 (by simp) hS.1) (ord_set 4 hS.2 (by simp))
          clear hS hm
          go_wp2
          exact ⟨rfl, by kernel_rfl, hS9⟩
        (try simp only [Act.put, List.setIfInBounds_toArray, List.set_cons_succ, List.set_cons_zero])
        refine walkedV_lit 24 22 3 #[(0, .tmp 37), (1, .tmp 39), (2, .tmp 41)] rfl rfl (.int .u64 0) Try.underlying24 (by kernel_rfl) (by decide) #[.int .u64 (ipa : Nat), .int .u64 (R : Nat), .int .u64 (R : Nat)] (fun v => by kernel_rfl) rfl ?_
        (try simp only [Act.put, List.setIfInBounds_toArray, List.set_cons_succ, List.set_cons_zero])
        refine walkedV_cons (.int .i64 1) rfl (fun v => ?_) ?_
        · intro l9 wS hz hn hm hS
          have hS9 : SlcO _ _ _ _ _ _ := And.intro (slc_other 6 (by simp) hS.1) (ord_set 6 hS.2 (by simp))
          clear hS hm
          go_wp2
          exact ⟨rfl, by kernel_rfl, hS9⟩
        (try simp only [Act.put, List.setIfInBounds_toArray, List.set_cons_succ, List.set_cons_zero])
        refine walkedV_dep 5 (idxU 1) (fun l hl => hl _ rfl ⟨5, .data⟩ (by simp) rfl) rfl (fun v => ?_) ?_
        · intro l9 wS hz hn hm hS
          obtain ⟨r9, hv9, -, -⟩ := slc_get hS.1 (5, #[.int .u64 (ipa : Nat), .int .u64 (R : Nat), .int .u64 (R : Nat)], 22) (by simp) (hm _ rfl ⟨5, .data⟩ (by simp) rfl)
          have hS9 : SlcO _ _ _ _ _ _ := And.intro (slc_other 7 (by simp) hS.1) (ord_set 7 hS.2 (by intro q hq he; simp only [List.mem_cons, List.not_mem_nil, or_false] at hq; rcases hq with rfl | rfl <;> first | exact hm _ rfl ⟨5, .data⟩ (by simp) rfl | exact absurd he (by decide)))
          clear hS hm
          rw [hv9, idxU_eq]
          clear hv9
          go_wp2
          exact ⟨rfl, by kernel_rfl, hS9⟩
        (try simp only [Act.put, List.setIfInBounds_toArray, List.set_cons_succ, List.set_cons_zero])
        refine walkedV_cons (.int .u64 (R : Nat)) rfl (fun v => ?_) ?_
        · intro l9 wS hz hn hm hS
          have hd9 : l9.getD 5 false = true := hS.2 (7, 5) (by simp) (hm _ rfl ⟨7, .data⟩ (by simp) rfl)
          obtain ⟨r9, hv9, -, hb9⟩ := slc_get hS.1 (5, #[.int .u64 (ipa : Nat), .int .u64 (R : Nat), .int .u64 (R : Nat)], 22) (by simp) hd9
          have hS9 : SlcO _ _ _ _ _ _ := And.intro (slc_other 8 (by simp) hS.1) (ord_set 8 hS.2 (by simp))
          obtain ⟨k9, -, -⟩ := of_block hb9
          clear hS hm hb9 hd9
          rw [hv9, idxU_eq]
          clear hv9
          go_wp2
          exact ⟨rfl, by kernel_rfl, hS9⟩
        (try simp only [Act.put, List.setIfInBounds_toArray, List.set_cons_succ, List.set_cons_zero])
        refine walkedV_cons (.int .u64 (two : Nat)) rfl (fun v => ?_) ?_
        · intro l9 wS hz hn hm hS
          have hS9 : SlcO _ _ _ _ _ _ := And.intro (slc_other 9 (by simp) hS.1) (ord_set 9 hS.2 (by simp))
          clear hS hm
          go_wp2
          exact ⟨rfl, by kernel_rfl, hS9⟩
        (try simp only [Act.put, List.setIfInBounds_toArray, List.set_cons_succ, List.set_cons_zero])
        refine walkedV_cons (.int .u64 (two : Nat)) rfl (fun v => ?_) ?_
        · intro l9 wS hz hn hm hS
          have hS9 : SlcO _ _ _ _ _ _ := And.intro (slc_other 10 (by simp) hS.1) (ord_set 10 hS.2 (by simp))
          clear hS hm
          go_wp2
          exact ⟨rfl, by kernel_rfl, hS9⟩
        (try simp only [Act.put, List.setIfInBounds_toArray, List.set_cons_succ, List.set_cons_zero])
        refine walkedV_cons (.int .u64 (M : Nat)) rfl (fun v => ?_) ?_
        · intro l9 wS hz hn hm hS
          have hS9 : SlcO _ _ _ _ _ _ := And.intro (slc_other 11 (by simp) hS.1) (ord_set 11 hS.2 (by simp))
          clear hS hm
          go_wp2
          exact ⟨rfl, by kernel_rfl, hS9⟩
        (try simp only [Act.put, List.setIfInBounds_toArray, List.set_cons_succ, List.set_cons_zero])
        refine walkedV_lit 24 22 3 #[(0, .tmp 46), (1, .const (.int .u64 4096)), (2, .tmp 48)] rfl rfl (.int .u64 0) Try.underlying24 (by kernel_rfl) (by decide) #[.int .u64 (two : Nat), .int .u64 4096, .int .u64 (M : Nat)] (fun v => by kernel_rfl) rfl ?_
        (try simp only [Act.put, List.setIfInBounds_toArray, List.set_cons_succ, List.set_cons_zero])
        refine walkedV_cons (.int .i64 1) rfl (fun v => ?_) ?_
        · intro l9 wS hz hn hm hS
          have hS9 : SlcO _ _ _ _ _ _ := And.intro (slc_other 13 (by simp) hS.1) (ord_set 13 hS.2 (by simp))
          clear hS hm
          go_wp2
          exact ⟨rfl, by kernel_rfl, hS9⟩
        (try simp only [Act.put, List.setIfInBounds_toArray, List.set_cons_succ, List.set_cons_zero])
        refine walkedV_dep 12 (idxU 1) (fun l hl => hl _ rfl ⟨12, .data⟩ (by simp) rfl) rfl (fun v => ?_) ?_
        · intro l9 wS hz hn hm hS
          obtain ⟨r9, hv9, -, -⟩ := slc_get hS.1 (12, #[.int .u64 (two : Nat), .int .u64 4096, .int .u64 (M : Nat)], 22) (by simp) (hm _ rfl ⟨12, .data⟩ (by simp) rfl)
          have hS9 : SlcO _ _ _ _ _ _ := And.intro (slc_other 14 (by simp) hS.1) (ord_set 14 hS.2 (by intro q hq he; simp only [List.mem_cons, List.not_mem_nil, or_false] at hq; rcases hq with rfl | rfl <;> first | exact hm _ rfl ⟨12, .data⟩ (by simp) rfl | exact absurd he (by decide)))
          clear hS hm
          rw [hv9, idxU_eq]
          clear hv9
          go_wp2
          exact ⟨rfl, by kernel_rfl, hS9⟩
        (try simp only [Act.put, List.setIfInBounds_toArray, List.set_cons_succ, List.set_cons_zero])
        refine walkedV_cons (.int .u64 4096) rfl (fun v => ?_) ?_
        · intro l9 wS hz hn hm hS
          have hd9 : l9.getD 12 false = true := hS.2 (14, 12) (by simp) (hm _ rfl ⟨14, .data⟩ (by simp) rfl)
          obtain ⟨r9, hv9, -, hb9⟩ := slc_get hS.1 (12, #[.int .u64 (two : Nat), .int .u64 4096, .int .u64 (M : Nat)], 22) (by simp) hd9
          have hS9 : SlcO _ _ _ _ _ _ := And.intro (slc_other 15 (by simp) hS.1) (ord_set 15 hS.2 (by simp))
          obtain ⟨k9, -, -⟩ := of_block hb9
          clear hS hm hb9 hd9
          rw [hv9, idxU_eq]
          clear hv9
          go_wp2
          exact ⟨rfl, by kernel_rfl, hS9⟩
        (try simp only [Act.put, List.setIfInBounds_toArray, List.set_cons_succ, List.set_cons_zero])
        refine walkedV_cons (.int .u64 (R : Nat)) rfl (fun v => ?_) ?_
        · intro l9 wS hz hn hm hS
          have hS9 : SlcO _ _ _ _ _ _ := And.intro (slc_other 16 (by simp) hS.1) (ord_set 16 hS.2 (by simp))
          clear hS hm
          go_wp2
          exact ⟨rfl, by kernel_rfl, hS9⟩
        (try simp only [Act.put, List.setIfInBounds_toArray, List.set_cons_succ, List.set_cons_zero])
        refine walkedV_cons (.int .u64 4096) rfl (fun v => ?_) ?_
        · intro l9 wS hz hn hm hS
          have hS9 : SlcO _ _ _ _ _ _ := And.intro (slc_other 17 (by simp) hS.1) (ord_set 17 hS.2 (by simp))
          clear hS hm
          go_wp2
          exact ⟨rfl, by kernel_rfl, hS9⟩
        (try simp only [Act.put, List.setIfInBounds_toArray, List.set_cons_succ, List.set_cons_zero])
        refine walkedV_nil fun v => ?_
        intro l9 y hz hall hS
        have HY := Lib.hid hS.1.1
        clear hS hall hz
        show wpList _ _ _ [] _ _
        go_wp2
        exact Met.intro (hJ1 _ _ (by kernel_rfl) ⟨R, 4096, ⟨HU.out.2.2.1, by decide⟩, rfl, rfl, HY.out⟩)
      · subst h
        refine wp_region_freesV (S := SlcO wq [(5, #[.int .u64 (ipa : Nat), .int .u64 (R : Nat), .int .u64 (R : Nat)], 22), (12, #[.int .u64 (two : Nat), .int .u64 4096, .int .u64 (M : Nat)], 22)] [(7, 5), (14, 12)]) (slcF [(5, #[.int .u64 (ipa : Nat), .int .u64 (R : Nat), .int .u64 (R : Nat)], 22), (12, #[.int .u64 (two : Nat), .int .u64 4096, .int .u64 (M : Nat)], 22)]) 18 (fun j C mk v l x hF hz hn hS => And.intro (slc_free (n := 18) (by simp) j C mk v l x hF hz hn hS.1) (ord_set j hS.2 (by have h9 := slcF_in hF; simp at h9 ⊢; omega))) (by kernel_rfl) (by kernel_rfl) (by kernel_rfl) (by decide) (fun _ => undef) (And.intro (slc_start (old_drew (old_refl _))) (ord_start _ _)) ?_
        refine walkedV_cons (.int .u64 (ipa : Nat)) rfl (fun v => ?_) ?_
        · intro l9 wS hz hn hm hS
          have hS9 : SlcO _ _ _ _ _ _ := And.intro (slc_other 0 (by simp) hS.1) (ord_set 0 hS.2 (by simp))
          clear hS hm
          go_wp2
          exact ⟨rfl, by kernel_rfl, hS9⟩
        (try simp only [Act.put, List.setIfInBounds_toArray, List.set_cons_succ, List.set_cons_zero])
        refine walkedV_cons (.int .u64 (ipa : Nat)) rfl (fun v => ?_) ?_
        · intro l9 wS hz hn hm hS
          have hS9 : SlcO _ _ _ _ _ _ := And.intro (slc_other 1 (by simp) hS.1) (ord_set 1 hS.2 (by simp))
          clear hS hm
          go_wp2
          exact ⟨rfl, by kernel_rfl, hS9⟩
        (try simp only [Act.put, List.setIfInBounds_toArray, List.set_cons_succ, List.set_cons_zero])
        refine walkedV_cons (.int .u64 (R : Nat)) rfl (fun v => ?_) ?_
        · intro l9 wS hz hn hm hS
          have hS9 : SlcO _ _ _ _ _ _ := And.intro (slc_other 2 (by simp) hS.1) (ord_set 2 hS.2 (by simp))
          clear hS hm
          go_wp2
          exact ⟨rfl, by kernel_rfl, hS9⟩
        (try simp only [Act.put, List.setIfInBounds_toArray, List.set_cons_succ, List.set_cons_zero])
        refine walkedV_cons (.int .u64 (ipa : Nat)) rfl (fun v => ?_) ?_
        · intro l9 wS hz hn hm hS
          have hS9 : SlcO _ _ _ _ _ _ := And.intro (slc_other 3 (by simp) hS.1) (ord_set 3 hS.2 (by simp))
          clear hS hm
          go_wp2
          exact ⟨rfl, by kernel_rfl, hS9⟩
        (try simp only [Act.put, List.setIfInBounds_toArray, List.set_cons_succ, List.set_cons_zero])
        refine walkedV_cons (.int .u64 (R : Nat)) rfl (fun v => ?_) ?_
        · intro l9 wS hz hn hm hS
          have hS9 : SlcO _ _ _ _ _ _ := And.intro (slc_other 4 (by simp) hS.1) (ord_set 4 hS.2 (by simp))
          clear hS hm
          go_wp2
          exact ⟨rfl, by kernel_rfl, hS9⟩
        (try simp only [Act.put, List.setIfInBounds_toArray, List.set_cons_succ, List.set_cons_zero])
        refine walkedV_lit 24 22 3 #[(0, .tmp 37), (1, .tmp 39), (2, .tmp 41)] rfl rfl (.int .u64 0) Try.underlying24 (by kernel_rfl) (by decide) #[.int .u64 (ipa : Nat), .int .u64 (R : Nat), .int .u64 (R : Nat)] (fun v => by kernel_rfl) rfl ?_
        (try simp only [Act.put, List.setIfInBounds_toArray, List.set_cons_succ, List.set_cons_zero])
        refine walkedV_cons (.int .i64 2) rfl (fun v => ?_) ?_
        · intro l9 wS hz hn hm hS
          have hS9 : SlcO _ _ _ _ _ _ := And.intro (slc_other 6 (by simp) hS.1) (ord_set 6 hS.2 (by simp))
          clear hS hm
          go_wp2
          exact ⟨rfl, by kernel_rfl, hS9⟩
        (try simp only [Act.put, List.setIfInBounds_toArray, List.set_cons_succ, List.set_cons_zero])
        refine walkedV_dep 5 (idxU 2) (fun l hl => hl _ rfl ⟨5, .data⟩ (by simp) rfl) rfl (fun v => ?_) ?_
        · intro l9 wS hz hn hm hS
          obtain ⟨r9, hv9, -, -⟩ := slc_get hS.1 (5, #[.int .u64 (ipa : Nat), .int .u64 (R : Nat), .int .u64 (R : Nat)], 22) (by simp) (hm _ rfl ⟨5, .data⟩ (by simp) rfl)
          have hS9 : SlcO _ _ _ _ _ _ := And.intro (slc_other 7 (by simp) hS.1) (ord_set 7 hS.2 (by intro q hq he; simp only [List.mem_cons, List.not_mem_nil, or_false] at hq; rcases hq with rfl | rfl <;> first | exact hm _ rfl ⟨5, .data⟩ (by simp) rfl | exact absurd he (by decide)))
          clear hS hm
          rw [hv9, idxU_eq]
          clear hv9
          go_wp2
          exact ⟨rfl, by kernel_rfl, hS9⟩
        (try simp only [Act.put, List.setIfInBounds_toArray, List.set_cons_succ, List.set_cons_zero])
        refine walkedV_cons (.int .u64 (R : Nat)) rfl (fun v => ?_) ?_
        · intro l9 wS hz hn hm hS
          have hd9 : l9.getD 5 false = true := hS.2 (7, 5) (by simp) (hm _ rfl ⟨7, .data⟩ (by simp) rfl)
          obtain ⟨r9, hv9, -, hb9⟩ := slc_get hS.1 (5, #[.int .u64 (ipa : Nat), .int .u64 (R : Nat), .int .u64 (R : Nat)], 22) (by simp) hd9
          have hS9 : SlcO _ _ _ _ _ _ := And.intro (slc_other 8 (by simp) hS.1) (ord_set 8 hS.2 (by simp))
          obtain ⟨k9, -, -⟩ := of_block hb9
          clear hS hm hb9 hd9
          rw [hv9, idxU_eq]
          clear hv9
          go_wp2
          exact ⟨rfl, by kernel_rfl, hS9⟩
        (try simp only [Act.put, List.setIfInBounds_toArray, List.set_cons_succ, List.set_cons_zero])
        refine walkedV_cons (.int .u64 (two : Nat)) rfl (fun v => ?_) ?_
        · intro l9 wS hz hn hm hS
          have hS9 : SlcO _ _ _ _ _ _ := And.intro (slc_other 9 (by simp) hS.1) (ord_set 9 hS.2 (by simp))
          clear hS hm
          go_wp2
          exact ⟨rfl, by kernel_rfl, hS9⟩
        (try simp only [Act.put, List.setIfInBounds_toArray, List.set_cons_succ, List.set_cons_zero])
        refine walkedV_cons (.int .u64 (two : Nat)) rfl (fun v => ?_) ?_
        · intro l9 wS hz hn hm hS
          have hS9 : SlcO _ _ _ _ _ _ := And.intro (slc_other 10 (by simp) hS.1) (ord_set 10 hS.2 (by simp))
          clear hS hm
          go_wp2
          exact ⟨rfl, by kernel_rfl, hS9⟩
        (try simp only [Act.put, List.setIfInBounds_toArray, List.set_cons_succ, List.set_cons_zero])
        refine walkedV_cons (.int .u64 (M : Nat)) rfl (fun v => ?_) ?_
        · intro l9 wS hz hn hm hS
          have hS9 : SlcO _ _ _ _ _ _ := And.intro (slc_other 11 (by simp) hS.1) (ord_set 11 hS.2 (by simp))
          clear hS hm
          go_wp2
          exact ⟨rfl, by kernel_rfl, hS9⟩
        (try simp only [Act.put, List.setIfInBounds_toArray, List.set_cons_succ, List.set_cons_zero])
        refine walkedV_lit 24 22 3 #[(0, .tmp 46), (1, .const (.int .u64 4096)), (2, .tmp 48)] rfl rfl (.int .u64 0) Try.underlying24 (by kernel_rfl) (by decide) #[.int .u64 (two : Nat), .int .u64 4096, .int .u64 (M : Nat)] (fun v => by kernel_rfl) rfl ?_
        (try simp only [Act.put, List.setIfInBounds_toArray, List.set_cons_succ, List.set_cons_zero])
        refine walkedV_cons (.int .i64 2) rfl (fun v => ?_) ?_
        · intro l9 wS hz hn hm hS
          have hS9 : SlcO _ _ _ _ _ _ := And.intro (slc_other 13 (by simp) hS.1) (ord_set 13 hS.2 (by simp))
          clear hS hm
          go_wp2
          exact ⟨rfl, by kernel_rfl, hS9⟩
        (try simp only [Act.put, List.setIfInBounds_toArray, List.set_cons_succ, List.set_cons_zero])
        refine walkedV_dep 12 (idxU 2) (fun l hl => hl _ rfl ⟨12, .data⟩ (by simp) rfl) rfl (fun v => ?_) ?_
        · intro l9 wS hz hn hm hS
          obtain ⟨r9, hv9, -, -⟩ := slc_get hS.1 (12, #[.int .u64 (two : Nat), .int .u64 4096, .int .u64 (M : Nat)], 22) (by simp) (hm _ rfl ⟨12, .data⟩ (by simp) rfl)
          have hS9 : SlcO _ _ _ _ _ _ := And.intro (slc_other 14 (by simp) hS.1) (ord_set 14 hS.2 (by intro q hq he; simp only [List.mem_cons, List.not_mem_nil, or_false] at hq; rcases hq with rfl | rfl <;> first | exact hm _ rfl ⟨12, .data⟩ (by simp) rfl | exact absurd he (by decide)))
          clear hS hm
          rw [hv9, idxU_eq]
          clear hv9
          go_wp2
          exact ⟨rfl, by kernel_rfl, hS9⟩
        (try simp only [Act.put, List.setIfInBounds_toArray, List.set_cons_succ, List.set_cons_zero])
        refine walkedV_cons (.int .u64 (M : Nat)) rfl (fun v => ?_) ?_
        · intro l9 wS hz hn hm hS
          have hd9 : l9.getD 12 false = true := hS.2 (14, 12) (by simp) (hm _ rfl ⟨14, .data⟩ (by simp) rfl)
          obtain ⟨r9, hv9, -, hb9⟩ := slc_get hS.1 (12, #[.int .u64 (two : Nat), .int .u64 4096, .int .u64 (M : Nat)], 22) (by simp) hd9
          have hS9 : SlcO _ _ _ _ _ _ := And.intro (slc_other 15 (by simp) hS.1) (ord_set 15 hS.2 (by simp))
          obtain ⟨k9, -, -⟩ := of_block hb9
          clear hS hm hb9 hd9
          rw [hv9, idxU_eq]
          clear hv9
          go_wp2
          exact ⟨rfl, by kernel_rfl, hS9⟩
        (try simp only [Act.put, List.setIfInBounds_toArray, List.set_cons_succ, List.set_cons_zero])
        refine walkedV_cons (.int .u64 (R : Nat)) rfl (fun v => ?_) ?_
        · intro l9 wS hz hn hm hS
          have hS9 : SlcO _ _ _ _ _ _ := And.intro (slc_other 16 (by simp) hS.1) (ord_set 16 hS.2 (by simp))
          clear hS hm
          go_wp2
          exact ⟨rfl, by kernel_rfl, hS9⟩
        (try simp only [Act.put, List.setIfInBounds_toArray, List.set_cons_succ, List.set_cons_zero])
        refine walkedV_cons (.int .u64 (M : Nat)) rfl (fun v => ?_) ?_
        · intro l9 wS hz hn hm hS
          have hS9 : SlcO _ _ _ _ _ _ := And.intro (slc_other 17 (by simp) hS.1) (ord_set 17 hS.2 (by simp))
          clear hS hm
          go_wp2
          exact ⟨rfl, by kernel_rfl, hS9⟩
        (try simp only [Act.put, List.setIfInBounds_toArray, List.set_cons_succ, List.set_cons_zero])
        refine walkedV_nil fun v => ?_
        intro l9 y hz hall hS
        have HY := Lib.hid hS.1.1
        clear hS hall hz
        show wpList _ _ _ [] _ _
        go_wp2
        exact Met.intro (hJ1 _ _ (by kernel_rfl) ⟨R, M, ⟨HU.out.2.2.1, HU.out.2.2.2⟩, rfl, rfl, HY.out⟩)
    case rest1 =>
    intro f3 x3 hcut
    dsimp only [mergeA, mergeL, Nat.reduceAdd]
    obtain ⟨at_, rt, hb, h12, h13, hO⟩ := hcut
    rw [h12, h13]
    have HO3 := Lib.hid hO
    have HB := Lib.hid hb
    clear h12 h13 hO hb
    have hc : Calls Try.prog 33 #[.pointer (some ⟨p, 0, none⟩), .int .u64 (rt : Nat), .int .u64 (at_ : Nat), .int .i64 ac] x3 (RetW w p wd (N + 4) (fun _ => False) x3 (secondN (rawM 40 wd) (okM 40) rt at_ ac)) := memS_second (memS_old HM.out HO3.out) (by have := H11.out.2; have := HZ.out; omega) rt at_ HB.out.2 HB.out.1 ac
    have hraw := memS_raw HM.out
    have hq : ∃ q, secondN (rawM 40 wd) (okM 40) rt at_ ac = q := ⟨_, rfl⟩
    obtain ⟨q, hq⟩ := hq
    rw [hq] at hc
    obtain ⟨⟨ofr, oip, o1, o2, o3, o4, o5, o6⟩, ⟨fst, fk, flv, fad, fsto⟩, nq⟩ := q
    have HQ := Lib.hid (And.intro hq hraw)
    clear hq hraw
    go_wp2_with fail
    (with_reducible refine hc.mono ?_)
    rintro e y1 ⟨rfl, hm, -, -⟩
    have HM1 := Lib.hid hm
    clear hc hm
    dsimp only [O8.cells, F5.cells]
    obtain ⟨Y1, hY1, hOY1, hob1, hfb1, hsY1, i1, i2⟩ := pair_new y1 #[Value.int .i64 0, .int .u64 0, .bool false, .bool false, .bool false, .bool false, .bool false, .bool false] #[Value.int .i64 0, .int .i64 0, .int .i64 0, .int .u64 0, .bool false] #[Value.int .i64 (ofr : Nat), .int .u64 (oip : Nat), .bool o1, .bool o2, .bool o3, .bool o4, .bool o5, .bool o6] #[Value.int .i64 fst, .int .i64 fk, .int .i64 flv, .int .u64 (fad : Nat), .bool fsto] 65 67
    have HY1 := Lib.hid (And.intro hOY1 (And.intro hob1 (And.intro hfb1 hsY1)))
    have HEY1 := Lib.hid hY1
    have I1Y1 := Lib.hid i1
    have I2Y1 := Lib.hid i2
    clear hY1 hOY1 hob1 hfb1 hsY1 i1 i2
    go_upto_region 9 with (first | (refine wpList_store_whole rfl 65 _ _ rfl y1.heap.size [Value.int .i64 (ofr : Nat), .int .u64 (oip : Nat), .bool o1, .bool o2, .bool o3, .bool o4, .bool o5, .bool o6] rfl rfl 65 _ I1Y1.out (by kernel_rfl) rfl (by intro v hv; simp only [List.mem_cons, List.not_mem_nil, or_false] at hv; rcases hv with rfl | rfl | rfl | rfl | rfl | rfl | rfl | rfl <;> rfl) ?_) | (refine wpList_store_whole rfl 67 _ _ rfl (y1.heap.size + 1) [Value.int .i64 fst, .int .i64 fk, .int .i64 flv, .int .u64 (fad : Nat), .bool fsto] rfl rfl 67 _ I2Y1.out (by kernel_rfl) rfl (by intro v hv; simp only [List.mem_cons, List.not_mem_nil, or_false] at hv; rcases hv with rfl | rfl | rfl | rfl | rfl <;> rfl) ?_))
    rw [← HEY1.out]
    clear HEY1 I1Y1 I2Y1
    obtain ⟨fb1, hfb1⟩ : ∃ fb1, fb1 = y1.heap.size + 1 := ⟨_, rfl⟩
    obtain ⟨ob1, hob1⟩ : ∃ ob1, ob1 = y1.heap.size := ⟨_, rfl⟩
    rw [← hfb1, ← hob1]
    rw [← hfb1, ← hob1] at HY1
    have HBY1 := Lib.hid (And.intro hob1 hfb1)
    clear hfb1 hob1
    have hm1 := memS_old HM1.out HY1.out.1
    have hc := memS_read hm1
    have HM2 := Lib.hid hm1
    clear hm1
    go_wp2_with fail
    (with_reducible refine hc.mono ?_)
    rintro e y2 ⟨dm, pgs, rfl, hO2, hD, hwd⟩
    have hc2 := docSecond_calls hD hwd HQ.out.2 rt at_ HB.out.2 HB.out.1 ac
    rw [HQ.out.1] at hc2
    have HO2 := Lib.hid hO2
    clear hc hO2 hD hwd
    go_wp2_with fail
    (with_reducible refine hc2.mono ?_)
    rintro e y3 ⟨rfl, hO3⟩
    have HO4 := Lib.hid (old_then HO2.out hO3)
    clear hc2 hO3
    dsimp only [O8.cells, F5.cells]
    obtain ⟨Y3, hY3, hOY3, hob2, hfb2, hsY3, i1, i2⟩ := pair_new y3 #[Value.int .i64 0, .int .u64 0, .bool false, .bool false, .bool false, .bool false, .bool false, .bool false] #[Value.int .i64 0, .int .i64 0, .int .i64 0, .int .u64 0, .bool false] #[Value.int .i64 (ofr : Nat), .int .u64 (oip : Nat), .bool o1, .bool o2, .bool o3, .bool o4, .bool o5, .bool o6] #[Value.int .i64 fst, .int .i64 fk, .int .i64 flv, .int .u64 (fad : Nat), .bool fsto] 77 67
    have HY3 := Lib.hid (And.intro hOY3 (And.intro hob2 (And.intro hfb2 hsY3)))
    have HEY3 := Lib.hid hY3
    have I1Y3 := Lib.hid i1
    have I2Y3 := Lib.hid i2
    clear hY3 hOY3 hob2 hfb2 hsY3 i1 i2
    go_upto_region 10 with (first | (refine wpList_store_whole rfl 77 _ _ rfl y3.heap.size [Value.int .i64 (ofr : Nat), .int .u64 (oip : Nat), .bool o1, .bool o2, .bool o3, .bool o4, .bool o5, .bool o6] rfl rfl 77 _ I1Y3.out (by kernel_rfl) rfl (by intro v hv; simp only [List.mem_cons, List.not_mem_nil, or_false] at hv; rcases hv with rfl | rfl | rfl | rfl | rfl | rfl | rfl | rfl <;> rfl) ?_) | (refine wpList_store_whole rfl 67 _ _ rfl (y3.heap.size + 1) [Value.int .i64 fst, .int .i64 fk, .int .i64 flv, .int .u64 (fad : Nat), .bool fsto] rfl rfl 67 _ I2Y3.out (by kernel_rfl) rfl (by intro v hv; simp only [List.mem_cons, List.not_mem_nil, or_false] at hv; rcases hv with rfl | rfl | rfl | rfl | rfl <;> rfl) ?_))
    rw [← HEY3.out]
    clear HEY3 I1Y3 I2Y3
    obtain ⟨fb2, hfb2⟩ : ∃ fb2, fb2 = y3.heap.size + 1 := ⟨_, rfl⟩
    obtain ⟨ob2, hob2⟩ : ∃ ob2, ob2 = y3.heap.size := ⟨_, rfl⟩
    rw [← hfb2, ← hob2]
    rw [← hfb2, ← hob2] at HY3
    have HBY3 := Lib.hid (And.intro hob2 hfb2)
    clear hfb2 hob2
    have a1 := keep_old HY3.out.1 (keep_old HO4.out HY1.out.2.1)
    have a2 := keep_old HY3.out.1 (keep_old HO4.out HY1.out.2.2.1)
    obtain ⟨j1, -, -⟩ := of_block a1
    obtain ⟨j2, -, -⟩ := of_block a2
    obtain ⟨j3, -, -⟩ := of_block HY3.out.2.1
    obtain ⟨j4, -, -⟩ := of_block HY3.out.2.2.1
    have HM3 := Lib.hid (memS_old HM2.out (old_then HO4.out HY3.out.1))
    have hc : Calls Try.prog 36 #[.agg #[Value.int .i64 (ofr : Nat), .int .u64 (oip : Nat), .bool o1, .bool o2, .bool o3, .bool o4, .bool o5, .bool o6], .agg #[Value.int .i64 fst, .int .i64 fk, .int .i64 flv, .int .u64 (fad : Nat), .bool fsto], .int .i64 (nq : Nat), .agg #[Value.int .i64 (ofr : Nat), .int .u64 (oip : Nat), .bool o1, .bool o2, .bool o3, .bool o4, .bool o5, .bool o6], .agg #[Value.int .i64 fst, .int .i64 fk, .int .i64 flv, .int .u64 (fad : Nat), .bool fsto], .int .i64 (nq : Nat)] Y3 (RetB Y3 (.bool true)) := same14_calls ⟨ofr, oip, o1, o2, o3, o4, o5, o6⟩ ⟨fst, fk, flv, fad, fsto⟩ nq
    clear a1 a2
    go_wp2_with fail
    (with_reducible refine hc.mono ?_)
    rintro e y4 ⟨rfl, hO5⟩
    have HM4 := Lib.hid (memS_old HM3.out hO5)
    clear hc hO5 j1 j2 j3 j4
    go_wp2
    refine Met.intro (hJ2 _ _ (by kernel_rfl) ?_ ?_)
    · have h1 := HZ.out
      refine ⟨z + 1, N + 4, rfl, by omega, ?_, HM4.out⟩
      have := H11.out.2
      omega
    · rw [H11.out.1]
      show 3 - (intOf (Value.int .i64 (z + 1))).toNat < 3 - (intOf (Value.int .i64 z)).toNat
      have h1 := HZ.out
      simp only [intOf]
      omega
end Go.Proofs.Ytlbehhbicmmdoaa
