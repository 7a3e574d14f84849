/- Contracts of the package disk: Write. -/
import Derived.Test.YtfiofjalpaeohaaDisk5
namespace Go.Proofs.Ytfiofjalpaeohaa
set_option linter.unusedVariables false
set_option linter.unusedSimpArgs false
open Go.RowKit

/-- An append whose run is known. -/
theorem wpList_append_at {P : Program} {w : World} {ops : Array Oper} {rest : List Oper} {o : Oper} {a : Act} {Q : Exit → Act → World → Prop} (hgd : o.guard = none) (s x : Operand) (t : TypeId)
    (ho : o.op = .call { callee := .builtin .append, args := #[s, x], argTypes := #[t, t] }) (u v : Value) (hs : a.eval s = u) (hx : a.eval x = v) (v' : Value) (w' : World)
    (hrun : (Builtin.append_ #[t, t] o.type #[u, v]).run P w = .ok v' w') (h : wpList P ops Q rest (a.put o.dst v') w') : wpList P ops Q (o :: rest) a w := by
  refine wpList_plain hgd fun K hK => ?_
  unfold Oper.wp
  simp [execOp, ho, resolve, invoke, builtin, hs, hx, hrun, Result.andThen]
  exact hK _ _ h

theorem write_none (X : Nat → Prop) (p slots : Nat) (pg : Int → Option (List Nat)) (F : List Bool) (k : Int) (ad : Option Addr) (n c : Nat) (w : World) (h : IsDisk w X p slots pg F) (hk : pg k = none) :
    Calls Try.prog 19 #[.pointer (some ⟨p, 0, none⟩), .int .i64 k, .slice ad n c] w (RetDisk w X p slots (.int .i64 23) pg F) := by
  have H := Lib.hid h
  obtain ⟨m, f, fv, h1, h2, h3, h4, h5, h6, h7, h8, h9, hA⟩ := h
  have c1 : w.cell? ⟨p, 1, none⟩ = some (.map (some m)) := by rw [cell_of h1]; rfl
  have hlk := map_miss (P := Try.prog) (t := 106) Try.underlying106 Try.underlying3 (zero_bytes w) h3 (h8 k hk)
  clear h1 h2 h3 h4 h5 h6 h7 h8 h9 hA
  go_enter Try.func19, Try.ntmps19
  go_wp2
  go_ret
  exact ⟨rfl, H.out, Only.refl _ _⟩

theorem write_arg (X : Nat → Prop) (p slots : Nat) (pg : Int → Option (List Nat)) (F : List Bool) (k : Int) (l : List Nat) (ad : Option Addr) (n c : Nat) (w : World) (h : IsDisk w X p slots pg F) (hk : pg k = some l) (hn : n ≠ 4096) (hn63 : n ≤ maxLen) :
    Calls Try.prog 19 #[.pointer (some ⟨p, 0, none⟩), .int .i64 k, .slice ad n c] w (RetDisk w X p slots (.int .i64 1) pg F) := by
  have H := Lib.hid h
  have hnb : ((n : Int) != 4096) = true := by rw [bne_iff_ne]; omega
  obtain ⟨m, f, fv, h1, h2, h3, h4, h5, h6, h7, h8, h9, hA⟩ := h
  have c1 : w.cell? ⟨p, 1, none⟩ = some (.map (some m)) := by rw [cell_of h1]; rfl
  obtain ⟨v, hv, hpage⟩ := h9 k l hk
  have hlk := map_lookup (P := Try.prog) (t := 106) Try.underlying106 Try.underlying3 h3 hv
  obtain ⟨g, c', rfl, -⟩ := hpage
  clear h1 h2 h3 h4 h5 h6 h7 h8 h9 hA hv hk hn
  go_enter Try.func19, Try.ntmps19
  go_wp2
  go_ret
  exact ⟨rfl, H.out, Only.refl _ _⟩

theorem write_fail (X : Nat → Prop) (p slots : Nat) (pg : Int → Option (List Nat)) (F : List Bool) (k : Int) (l : List Nat) (ad : Option Addr) (c : Nat) (w : World) (h : IsDisk w X p slots pg F) (hk : pg k = some l) (hF : F.headD false = true) :
    Calls Try.prog 19 #[.pointer (some ⟨p, 0, none⟩), .int .i64 k, .slice ad 4096 c] w (RetDisk w X p slots (.int .i64 13) pg F.tail) := by
  have hgo := goes_calls X p slots pg F w h
  rw [hF] at hgo
  obtain ⟨m, f, fv, h1, h2, h3, h4, h5, h6, h7, h8, h9, hA⟩ := h
  have c1 : w.cell? ⟨p, 1, none⟩ = some (.map (some m)) := by rw [cell_of h1]; rfl
  obtain ⟨v, hv, hpage⟩ := h9 k l hk
  have hlk := map_lookup (P := Try.prog) (t := 106) Try.underlying106 Try.underlying3 h3 hv
  obtain ⟨g, c', rfl, -⟩ := hpage
  clear h1 h3 h4 h5 h6 h7 h8 h9 hA hk hv hF
  go_enter Try.func19, Try.ntmps19
  go_wp2_with fail
  (with_reducible refine hgo.mono ?_)
  rintro e w1 ⟨rfl, hd, ho⟩
  have HD := Lib.hid hd
  have HO := Lib.hid ho
  clear hgo hd ho
  go_wp2
  go_ret
  exact ⟨rfl, HD.out, HO.out.mono fun b _ e => by rw [e]; exact h2⟩

/-- What is left where a page was put: for a walk. -/
theorem put_page {X : Nat → Prop} {p slots m : Nat} {pg : Int → Option (List Nat)} {F : List Bool} {f : Int → Option Value} {fv : Value} {w1 w2 w3 : World} {k : Int} {g c : Nat} {l : List Nat}
    (h1 : w1.heap[p]? = some (.cells (diskCells slots m fv) 108)) (h2 : ¬ X p) (h3 : IsMap w1 m f (cntOf pg slots)) (h4 : ¬ X m) (h5 : m ≠ p) (h6 : slots ≤ 4096) (h7 : ∀ k : Int, (pg k).isSome = true → 0 ≤ k ∧ k < slots)
    (h8 : ∀ k, pg k = none → f k = none) (h9 : ∀ k l, pg k = some l → ∃ v, f k = some v ∧ PageIs w1 X p m v l) (hA : FailsIs w1 X p m fv F) (hX : ∀ b, X b → b < w1.heap.size)
    (hO : Old w1 w2) (hrow : Row w2 w1.heap.size g c l) (hl : l.length = 4096) (k0 : 0 ≤ k) (k1 : k < slots)
    (hm : IsMap w3 m (updF f k (some (.slice (some ⟨g, 0, none⟩) 4096 c))) (if (f k).isSome then cntOf pg slots else cntOf pg slots + 1)) (ho : Only (fun j => j = m) w2 w3) :
    IsDisk w3 X p slots (updP pg k (some l)) F ∧ Only (fun b => ¬ X b) w1 w3 := by
  have hp := lt_of_block h1
  have hmm := isMap_lt h3
  have hr := row_parts hrow
  have hsome : (f k).isSome = (pg k).isSome := by
    cases hp : pg k with
    | none => rw [h8 k hp]; rfl
    | some l => obtain ⟨v, hv, _⟩ := h9 k l hp; rw [hv]; rfl
  have hcnt : (if (f k).isSome then cntOf pg slots else cntOf pg slots + 1) = cntOf (updP pg k (some l)) slots := by
    have := cnt_upd pg k.toNat (some l) slots (by omega)
    rw [show ((k.toNat : Nat) : Int) = k by omega] at this
    rw [hsome]
    cases hq : (pg k).isSome <;> rw [hq] at this <;> simp at this ⊢ <;> omega
  rw [hcnt] at hm
  have hpage : PageIs w2 X p m (.slice (some ⟨g, 0, none⟩) 4096 c) l := by
    refine ⟨g, c, rfl, hl, ⟨?_, hrow.2⟩, fun hx => ?_, by omega, by omega⟩
    · refine ⟨hrow.1.1, ?_⟩
      rcases hrow.1.2 with h' | ⟨g', cap', cur, h', hb, rest⟩
      · exact .inl h'
      · exact .inr ⟨g', cap', cur, h', Nat.zero_le _, rest⟩
    · have := hX g hx; omega
  have := disk_map (pg' := updP pg k (some l)) (keep_old hO h1) h2 h4 h5 h6 (fails_only hA (Only.of_below hO) fun _ _ _ _ f => f) hm ho (fun k' hk' => by
      unfold updP at hk'
      split at hk'
      · rename_i e; rw [e]; exact ⟨k0, k1⟩
      · exact h7 k' hk') (fun k' hk' => by
      unfold updP at hk'
      unfold updF
      split at hk'
      · cases hk'
      · rename_i hne
        rw [if_neg hne]
        exact h8 k' hk') (fun k' l' hk' => by
      unfold updP at hk'
      unfold updF
      split at hk'
      · rename_i e
        rw [if_pos e]
        obtain rfl := Option.some.inj hk'
        exact ⟨_, rfl, hpage⟩
      · rename_i hne
        rw [if_neg hne]
        obtain ⟨v, a, b⟩ := h9 k' l' hk'
        exact ⟨v, a, page_only b (Only.of_below hO) fun _ _ _ _ f => f⟩)
  exact ⟨this.1, ((Only.of_below hO).mono fun b _ f => f.elim).trans this.2⟩

set_option maxHeartbeats 4000000 in
set_option maxRecDepth 100000 in
theorem write_ok (X : Nat → Prop) (p slots : Nat) (pg : Int → Option (List Nat)) (F : List Bool) (k : Int) (l : List Nat) (P : List Nat) (ad : Option Addr) (c : Nat) (w : World) (h : IsDisk w X p slots pg F) (hX : ∀ b, X b → b < w.heap.size) (hk : pg k = some l) (hF : F.headD false = false) (hB : Bytes w ad c P) (hP : P.length = 4096) (hBp : ∀ bb off, ad = some ⟨bb, off, none⟩ → bb ≠ p) :
    Calls Try.prog 19 #[.pointer (some ⟨p, 0, none⟩), .int .i64 k, .slice ad 4096 c] w (RetDisk w X p slots (.int .i64 0) (updP pg k (some P)) F.tail) := by
  have hgo := goes_calls X p slots pg F w h
  rw [hF] at hgo
  obtain ⟨m, f, fv, h1, h2, h3, h4, h5, h6, h7, h8, h9, hA⟩ := h
  have c1 : w.cell? ⟨p, 1, none⟩ = some (.map (some m)) := by rw [cell_of h1]; rfl
  obtain ⟨v, hv, hpage⟩ := h9 k l hk
  have hlk := map_lookup (P := Try.prog) (t := 106) Try.underlying106 Try.underlying3 h3 hv
  obtain ⟨g, c', rfl, -⟩ := hpage
  have hdom := h7 k (by rw [hk]; rfl)
  obtain ⟨bb, off, rfl, hcells⟩ := bytes_some hB (by omega)
  have hne := hBp bb off rfl
  have hcc := hB.1
  have hcm := hB.2.1
  have hblt : bb < w.heap.size := by
    obtain ⟨x, bb', off', _, _, e, hb, _⟩ := bytes_at hB 0 (by omega)
    cases e; exact hb
  have hP256 := bytes_lt hB
  obtain ⟨i0, hi, hz0, hz1, hz2⟩ := info_parts u8_info
  clear h1 h3 h4 h5 h6 h7 h8 h9 hA hk hv hF hB hBp
  go_enter Try.func19, Try.ntmps19
  go_wp2_with fail
  (with_reducible refine hgo.mono ?_)
  rintro e w1 ⟨rfl, hd, ho⟩
  have hB1 : Bytes w1.drew (some ⟨bb, off, none⟩) c P := by
    refine ⟨hcc, hcm, fun e => (by cases e), fun k x hx => ⟨(hcells k x hx).1, bb, off, rfl, Nat.lt_of_lt_of_le hblt ho.size, ?_⟩⟩
    show w1.cell? _ = _
    rw [ho.cell bb _ hblt hne]
    exact (hcells k x hx).2
  have hX1 : ∀ b, X b → b < w1.drew.heap.size := fun b hb => Nat.lt_of_lt_of_le (hX b hb) ho.size
  have hO0 : Only (fun b => ¬ X b) w w1.drew := (ho.mono fun b _ e => by rw [e]; exact h2).drew
  obtain ⟨m, f, fv, h1, h2, h3, h4, h5, h6, h7, h8, h9, hA⟩ := disk_old hd (old_drew (old_refl w1))
  obtain ⟨v2, w2, hrun, hown, hgrow, -⟩ := run_append_own (P := Try.prog) w1.drew w1.drew.heap.size 31 31 5 i0 (.int .u8 0) 1 1 Try.underlying31 hi hz0 hz1 hz2 rfl (by decide) _ 0 [] (World.ownsRow_nil _ _ _ _) ⟨bb, off, none⟩ 4096 c (P.map vb) (by simp [hP]) (bytes_news2 hB1) (vb_one P) (by unfold maxLen; omega) (by omega) (Nat.le_refl _)
  simp only [Nat.zero_add, List.nil_append] at hown
  obtain ⟨g2, c2, hv2, hrow2⟩ := row_of hown hP.symm (by omega) hP256
  rw [hP] at hv2
  subst hv2
  have hO2 := old_grown (old_refl w1.drew) hgrow (fun g e => by cases e)
  obtain ⟨w3, hput, hmap3, ho3⟩ := map_put (P := Try.prog) (t := 106) Try.underlying106 Try.underlying3 (isMap_old h3 hO2) k (.slice (some ⟨g2, 0, none⟩) 4096 c2)
  have hfin := put_page h1 h2 h3 h4 h5 h6 h7 h8 h9 hA hX1 hO2 hrow2 hP hdom.1 hdom.2 hmap3 ho3
  have cA : w1.drew.cell? ⟨p, 1, none⟩ = some (.map (some m)) := by rw [cell_of h1]; rfl
  have cB : w2.cell? ⟨p, 1, none⟩ = some (.map (some m)) := by rw [cell_of (keep_old hO2 h1)]; rfl
  have HF := Lib.hid hfin
  have HO0 := Lib.hid hO0
  clear hgo hd ho hfin h1 h3 h4 h5 h6 h7 h8 h9 hA hmap3 ho3 hO2 hrow2 hown hgrow hB1 hX1 hcells hP256 hO0 hX
  go_wp2_with fail
  refine wp_region_staged (S := StageS 6 w1.drew w2) 7 (by kernel_rfl) (by kernel_rfl) (by kernel_rfl) (by decide) rfl ?_
  (apply walkedS_cons; (focus (intro l9 wS hz hn hS; have hS9 := stage_other 0 (by decide) hS; have c9 := stage_cell hS cA cB; clear hS; go_wp2; exact ⟨rfl, rfl, hS9⟩)); rfl; (try simp only [Act.put, List.setIfInBounds_toArray, List.set_cons_succ, List.set_cons_zero]))
  (apply walkedS_cons; (focus (intro l9 wS hz hn hS; have hS9 := stage_other 1 (by decide) hS; have c9 := stage_cell hS cA cB; clear hS; go_wp2; exact ⟨rfl, rfl, hS9⟩)); rfl; (try simp only [Act.put, List.setIfInBounds_toArray, List.set_cons_succ, List.set_cons_zero]))
  (apply walkedS_cons; (focus (intro l9 wS hz hn hS; have hS9 := stage_other 2 (by decide) hS; have c9 := stage_cell hS cA cB; clear hS; go_wp2; exact ⟨rfl, rfl, hS9⟩)); rfl; (try simp only [Act.put, List.setIfInBounds_toArray, List.set_cons_succ, List.set_cons_zero]))
  (apply walkedS_cons; (focus (intro l9 wS hz hn hS; have hS9 := stage_other 3 (by decide) hS; have c9 := stage_cell hS cA cB; clear hS; go_wp2; exact ⟨rfl, rfl, hS9⟩)); rfl; (try simp only [Act.put, List.setIfInBounds_toArray, List.set_cons_succ, List.set_cons_zero]))
  (apply walkedS_cons; (focus (intro l9 wS hz hn hS; have hS9 := stage_other 4 (by decide) hS; have c9 := stage_cell hS cA cB; clear hS; go_wp2; exact ⟨rfl, rfl, hS9⟩)); rfl; (try simp only [Act.put, List.setIfInBounds_toArray, List.set_cons_succ, List.set_cons_zero]))
  (apply walkedS_cons; (focus (intro l9 wS hz hn hS; have hS9 := stage_other 5 (by decide) hS; have c9 := stage_cell hS cA cB; clear hS; go_wp2; exact ⟨rfl, rfl, hS9⟩)); rfl; (try simp only [Act.put, List.setIfInBounds_toArray, List.set_cons_succ, List.set_cons_zero]))
  apply walkedS_cons
  · intro l9 wS hz hn hS
    obtain rfl := stage_before hn hS
    clear hS
    go_wp2_with (at_builtin; refine wpList_append_at rfl _ _ 31 rfl _ _ rfl rfl _ _ hrun ?_)
    exact ⟨rfl, rfl, stage_done hz (by decide)⟩
  · rfl
  apply walkedS_nil
  intro l9 wS hz hall hS
  obtain rfl := stage_after (hall 6 (by decide)) hS
  clear hS
  show wpList _ _ _ [_] _ _
  go_wp2
  go_ret
  exact ⟨rfl, HF.out.1, HO0.out.trans HF.out.2⟩
end Go.Proofs.Ytfiofjalpaeohaa
