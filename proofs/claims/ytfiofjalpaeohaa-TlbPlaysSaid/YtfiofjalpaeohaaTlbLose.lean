/- The package tlb: lose. -/
import Derived.Test.YtfiofjalpaeohaaTlbEvict
namespace Go.Proofs.Ytfiofjalpaeohaa
set_option linter.unusedVariables false
set_option linter.unusedSimpArgs false
open Go.RowKit

/-- Places without the lines of B. -/
def loseP (B : Ln → Bool) (q : Pl) : Pl := if q.on && B q.l then pl0 else q
def cntP (B : Ln → Bool) : List Pl → Nat
  | [] => 0
  | q :: t => (if q.on && B q.l then 1 else 0) + cntP B t
def cntT (B : Ln → Bool) : List (List Pl) → Nat
  | [] => 0
  | t :: T => cntP B t + cntT B T
theorem cntP_le (B : Ln → Bool) (t : List Pl) : cntP B t ≤ t.length := by
  induction t with
  | nil => exact Nat.le_refl _
  | cons q t ih => unfold cntP; rw [List.length_cons]; split <;> omega
theorem cntT_le (B : Ln → Bool) (wy : Nat) (T : List (List Pl)) (h : ∀ t ∈ T, t.length = wy) : cntT B T ≤ T.length * wy := by
  induction T with
  | nil => simp [cntT]
  | cons t T ih =>
    unfold cntT
    have := cntP_le B t
    have h1 := h t (List.mem_cons_self ..)
    have h2 := ih (fun u hu => h u (List.mem_cons_of_mem _ hu))
    rw [List.length_cons, Nat.add_mul]; omega

theorem take_set {α : Type} (l : List α) (i : Nat) (a : α) (h : i < l.length) : (l.set i a).take (i + 1) = l.take i ++ [a] := by
  rw [List.take_set, List.take_succ_eq_append_getElem h, List.set_append_right _ _ (by simp; omega)]
  simp [List.length_take, Nat.min_eq_left (Nat.le_of_lt h)]
theorem drop_set {α : Type} (l : List α) (i : Nat) (a : α) : (l.set i a).drop (i + 1) = l.drop (i + 1) := by
  rw [List.drop_set, if_pos (by omega)]
theorem drop_get {α : Type} (l : List α) (i : Nat) (a : α) (h : l[i]? = some a) : l.drop i = a :: l.drop (i + 1) := by
  obtain ⟨h1, h2⟩ := List.getElem?_eq_some_iff.1 h
  rw [List.drop_eq_getElem_cons h1, h2]
theorem take_get {α : Type} (l : List α) (i : Nat) (a : α) (h : l[i]? = some a) : l.take (i + 1) = l.take i ++ [a] := by
  obtain ⟨h1, h2⟩ := List.getElem?_eq_some_iff.1 h
  rw [List.take_succ_eq_append_getElem h1, h2]
theorem set_self {α : Type} (l : List α) (i : Nat) (a : α) (h : l[i]? = some a) : l.set i a = l := by
  obtain ⟨h1, h2⟩ := List.getElem?_eq_some_iff.1 h
  rw [← h2, List.set_getElem_self]

/-- What a function that is handed to lose tells. -/
structure Teller (f : FuncId) (caps : Array Value) (S : World → Prop) (B : Ln → Bool) (bs : List Nat) : Prop where
  fn : ∀ args x, (callFunc f args).run Try.prog x = .ok (.enter f args) x
  keep : ∀ x y, S x → Only (fun b => b ∈ bs) x y → S y
  call : ∀ (l : Ln) x, S x → Calls Try.prog f (#[.agg l.cells.toArray] ++ caps) x (RetB x (.bool (B l)))

section
variable {w : World} {p gs : Nat} {bs : List Nat} {n wy : Nat} {T : List (List Pl)}
theorem tlb_lens (h : IsTlb w p gs bs n wy T) : ∀ t ∈ T, t.length = wy := by
  intro t ht
  obtain ⟨i, hi⟩ := List.getElem?_of_mem ht
  have hl : i < bs.length := by rw [h.lb, ← h.lT]; exact (List.getElem?_eq_some_iff.1 hi).1
  exact (h.set_ i _ t (List.getElem?_eq_getElem hl) hi).1
theorem tlb_block (h : IsTlb w p gs bs n wy T) {i : Nat} (hi : i < n) : ∃ b t, bs[i]? = some b ∧ T[i]? = some t ∧ t.length = wy := by
  refine ⟨_, _, List.getElem?_eq_getElem (by rw [h.lb]; exact hi), List.getElem?_eq_getElem (by rw [h.lT]; exact hi), ?_⟩
  exact tlb_lens h _ (List.getElem_mem _)

set_option maxHeartbeats 8000000 in
set_option maxRecDepth 100000 in
theorem lose_calls {f : FuncId} {caps : Array Value} {S : World → Prop} {B : Ln → Bool} (h : IsTlb w p gs bs n wy T) (hR : Teller f caps S B bs) (hS : S w) :
    Calls Try.prog 72 #[.pointer (some ⟨p, 0, none⟩), .func (.func f) #[] caps] w (fun e y => e = .returned (.int .i64 (cntT B T : Nat)) ∧
      IsTlb y p gs bs n wy (T.map (fun t => t.map (loseP B))) ∧ Only (fun z => z ∈ bs) w y) := by
  have c0 : w.cell? ⟨p, 0, none⟩ = some (.slice (some ⟨gs, 0, none⟩) n n) := by rw [cell_of h.hp]; rfl
  have hcnt : cntT B T ≤ 512 := by
    have a := cntT_le B wy T (tlb_lens h)
    have b1 := h.h1.2
    have b2 := h.h2.2
    have b3 := Nat.mul_le_mul (show T.length ≤ 64 by rw [h.lT]; exact b1) b2
    omega
  have n64 : (n : Int) ≤ 64 := by have := h.h1.2; omega
  have w8 : (wy : Int) ≤ 8 := by have := h.h2.2; omega
  have H := Lib.hid h
  have HR := Lib.hid hR
  have HS := Lib.hid hS
  have hfn := hR.fn
  have HC := Lib.hid hcnt
  clear h hS hcnt hR
  go_enter Try.func72, Try.ntmps72
  go_wp2
  go_loopw [5, 7, 8, 14, 20] (fun s5 _ _ s14 _ wx => ∃ (i c : Nat) (T1 : List (List Pl)), i ≤ n ∧ s14 = .int .i64 (i : Nat) ∧ s5 = .int .i64 (c : Nat) ∧ IsTlb wx p gs bs n wy T1 ∧ S wx ∧ Only (fun z => z ∈ bs) w wx ∧
    T1.take i ++ (T1.drop i).map (fun t => t.map (loseP B)) = T.map (fun t => t.map (loseP B)) ∧ c + cntT B (T1.drop i) = cntT B T) (fun _ _ _ s14 _ _ => n - (intOf s14).toNat)
  case atStart => exact ⟨0, 0, T, by omega, rfl, rfl, H.out, HS.out, Only.refl _ _, by simp, by simp⟩
  case round =>
    obtain ⟨i, c, T1, hi, rfl, rfl, hT, hSx, hO, hmap, hct⟩ := hrel
    have HO := Lib.hid hO
    have HT := Lib.hid hT
    have HM := Lib.hid hmap
    have HCT := Lib.hid hct
    by_cases hin : i = n
    · subst hin
      have e1 : T1.drop i = [] := List.drop_eq_nil_of_le (by rw [hT.lT]; exact Nat.le_refl _)
      rw [e1] at hmap hct
      have e2 : T1.take i = T1 := List.take_of_length_le (by rw [hT.lT]; exact Nat.le_refl _)
      simp only [List.map_nil, List.append_nil, e2] at hmap
      have hct' : c = cntT B T := hct
      subst hct'
      have HM2 := Lib.hid hmap
      clear hi hT hSx hO hmap hct e1 e2 c0
      go_wp2
      go_ret
      refine ⟨rfl, ?_, HO.out⟩
      rw [← HM2.out]; exact HT.out
    · have hlt : i < n := by omega
      obtain ⟨b, t, hb, ht, htl⟩ := tlb_block hT hlt
      have i1 : (i : Int) < n := by omega
      have c1 : wr.cell? ⟨gs, i, none⟩ = some (.slice (some ⟨b, 0, none⟩) wy wy) := by rw [cell_of hT.hg]; simp [hb]
      have HB := Lib.hid (And.intro hb (And.intro ht htl))
      have HSx := Lib.hid hSx
      have HI := Lib.hid hlt
      clear hi hT hSx hO hmap hct hb ht htl hin hlt c0
      have hc512 : (c : Int) ≤ 512 := by have := HC.out; have := HCT.out; omega
      go_wp2
      go_loopw [5, 8, 20] (fun s5 _ s20 wx => ∃ (j c1 : Nat) (t1 : List Pl), j ≤ wy ∧ s20 = .int .i64 (j : Nat) ∧ s5 = .int .i64 (c1 : Nat) ∧ IsTlb wx p gs bs n wy (T1.set i t1) ∧ S wx ∧ Only (fun z => z ∈ bs) w wx ∧ t1.length = wy ∧
        t1.take j ++ (t1.drop j).map (loseP B) = t.map (loseP B) ∧ c1 + cntP B (t1.drop j) = c + cntP B t) (fun _ _ s20 _ => wy - (intOf s20).toNat)
      case atStart => exact ⟨0, c, t, by omega, rfl, rfl, by rw [set_self _ _ _ HB.out.2.1]; exact HT.out, HSx.out, HO.out, HB.out.2.2, by simp, by simp⟩
      case round =>
        obtain ⟨j, c1', t1, hj, rfl, rfl, hT', hSx', hO', htl', hmap', hct'⟩ := hrel
        have HT' := Lib.hid hT'
        have HS' := Lib.hid hSx'
        have HO' := Lib.hid hO'
        have HM' := Lib.hid hmap'
        have HC' := Lib.hid hct'
        have HL' := Lib.hid htl'
        by_cases hjn : j = wy
        · subst hjn
          have e1 : t1.drop j = [] := List.drop_eq_nil_of_le (by rw [htl']; exact Nat.le_refl _)
          have e2 : t1.take j = t1 := List.take_of_length_le (by rw [htl']; exact Nat.le_refl _)
          rw [e1] at hmap' hct'
          simp only [List.map_nil, List.append_nil, e2] at hmap'
          have hct2 : c1' = c + cntP B t := hct'
          have HX := Lib.hid (And.intro hmap' hct2)
          clear hj hT' hSx' hO' hmap' hct' e1 e2 hct2 htl'
          go_wp2
          go_roundw
          case rel =>
            obtain ⟨hmp, hc2⟩ := HX.out
            refine ⟨i + 1, c1', T1.set i t1, HI.out, by simp, rfl, HT'.out, HS'.out, HO'.out, ?_, ?_⟩
            · rw [take_set _ _ _ (by rw [HT.out.lT]; exact HI.out), drop_set, hmp, ← HM.out, drop_get _ _ _ HB.out.2.1]
              simp
            · rw [drop_set, ← HCT.out, drop_get _ _ _ HB.out.2.1, hc2]
              show _ = c + (cntP B t + cntT B (T1.drop (i + 1)))
              omega
          case measure => have := HI.out; (simp [intOf]) <;> omega
        · have hjlt : j < wy := by omega
          obtain ⟨q, hq⟩ : ∃ q, t1[j]? = some q := ⟨_, List.getElem?_eq_getElem (by rw [htl']; exact hjlt)⟩
          have hset : (T1.set i t1)[i]? = some t1 := by rw [List.getElem?_set, if_pos rfl, if_pos (by rw [HT.out.lT]; exact HI.out)]
          have hdrop := drop_get _ _ _ hq
          have hbs : b ∈ bs := List.mem_of_getElem? HB.out.1
          have hcell := fun x (hx : Old wr x) => pl_cell (tlb_old hT' hx) HB.out.1 hset hq
          have hblk := fun x (hx : Old wr x) => ((tlb_old hT' hx).set_ i b t1 HB.out.1 hset).2
          have hput := fun x (hx : Old wr x) => tlb_put (tlb_old hT' hx) HB.out.1 (t1.set j pl0) (by rw [List.length_set]; exact htl')
          simp only [List.set_set] at hput
          have hfl : List.take (j * 12) (placesC t1) ++ (pl0.cells ++ List.drop (j * 12 + pl0.cells.length) (placesC t1)) = placesC (t1.set j pl0) := by rw [← List.append_assoc]; exact flatC_set pl_len t1 j pl0 (by rw [htl']; exact hjlt)
          have hJl : j * 12 + 12 ≤ (placesC t1).length := by rw [flatC_length pl_len, htl']; omega
          have hc1 : (c1' : Int) ≤ 512 := by
            have a := HC.out; have b1 := HCT.out
            rw [drop_get _ _ _ HB.out.2.1] at b1
            have b2 : c + (cntP B t + cntT B (T1.drop (i + 1))) = cntT B T := b1
            omega
          have HQ := Lib.hid (And.intro hq (And.intro hdrop hbs))
          have HBK := Lib.hid hblk
          have HPut := Lib.hid hput
          have HFL := Lib.hid hfl
          have HJL := Lib.hid hJl
          have HJ := Lib.hid hjlt
          have HCell := Lib.hid hcell
          have j1 : (j : Int) < wy := by omega
          obtain ⟨on, l⟩ := q
          have c2 : wr.cell? ⟨b, j * 12, none⟩ = some (.bool on) := hcell wr (old_refl _) 0 _ rfl
          clear hj hT' hSx' hO' hmap' hct' htl' hjn hq hset hdrop hbs hcell hblk hput hfl hJl hjlt
          cases on
          case false =>
            go_wp2
            go_roundw
            case rel =>
              refine ⟨j + 1, c1', t1, HJ.out, by simp, rfl, HT'.out, HS'.out, HO'.out, HL'.out, ?_, ?_⟩
              · rw [← HM'.out, HQ.out.2.1, take_get _ _ _ HQ.out.1]
                simp [loseP]
              · rw [← HC'.out, HQ.out.2.1]
                simp [cntP]
            case measure => have := HJ.out; (simp [intOf]) <;> omega
          case true =>
            have hcl : ∀ (c : Nat) (v : Value), l.cells[c]? = some v → wr.cell? ⟨b, j * 12 + 1 + c, none⟩ = some v := fun c v hv => by
              have := HCell.out wr (old_refl _) (c + 1) v (by simpa [Pl.cells] using hv)
              rwa [show j * 12 + (c + 1) = j * 12 + 1 + c by omega] at this
            have hcall := HR.out.call l wr HS'.out
            obtain ⟨BL, hBL⟩ : ∃ BL, B l = BL := ⟨_, rfl⟩
            rw [hBL] at hcall
            have HBB := Lib.hid hBL
            clear hBL
            obtain ⟨lid, asid, vp, ip, fr, p0, p1, p2, s0, s1, s2⟩ := l
            change Calls _ _ (#[.agg #[.int .i64 lid, .int .i64 asid, .int .u64 (vp : Nat), .int .u64 (ip : Nat), .int .i64 fr, .bool p0, .bool p1, .bool p2, .bool s0, .bool s1, .bool s2]] ++ caps) _ _ at hcall
            have k0 := hcl 0 _ rfl
            have k1 := hcl 1 _ rfl
            have k2 := hcl 2 _ rfl
            have k3 := hcl 3 _ rfl
            have k4 := hcl 4 _ rfl
            have k5 := hcl 5 _ rfl
            have k6 := hcl 6 _ rfl
            have k7 := hcl 7 _ rfl
            have k8 := hcl 8 _ rfl
            have k9 := hcl 9 _ rfl
            have k10 := hcl 10 _ rfl
            simp only [Nat.add_zero] at k0
            clear hcl
            go_wp2_with fail
            (with_reducible refine hcall.mono ?_)
            rintro e x2 ⟨rfl, hO2⟩
            clear hcall c2 k0 k1 k2 k3 k4 k5 k6 k7 k8 k9 k10
            have HO2 := Lib.hid hO2
            have hX := HO'.out.trans ((Only.of_below hO2).mono (G := fun z => z ∈ bs) (fun _ _ f => f.elim))
            have HX := Lib.hid (And.intro hX (HR.out.keep _ _ HS'.out ((Only.of_below hO2).mono (G := fun z => z ∈ bs) (fun _ _ f => f.elim))))
            have HBX := Lib.hid (HBK.out x2 hO2)
            clear hX hO2
            cases BL
            case false =>
              go_wp2
              go_roundw
              case rel =>
                refine ⟨j + 1, c1', t1, HJ.out, by simp, rfl, tlb_old HT'.out HO2.out, HX.out.2, HX.out.1, HL'.out, ?_, ?_⟩
                · rw [← HM'.out, HQ.out.2.1, take_get _ _ _ HQ.out.1]
                  simp [loseP, HBB.out]
                · rw [← HC'.out, HQ.out.2.1]
                  simp [cntP, HBB.out]
              case measure => have := HJ.out; (simp [intOf]) <;> omega
            case true =>
              go_wp2_with (refine wpList_store_at rfl 120 _ _ rfl b (j * 12) pl0.cells rfl rfl 120 _ HBX.out (by kernel_rfl) HJL.out (pl_one _) ?_)
              go_roundw
              case rel =>
                have hf := HPut.out x2 HO2.out
                rw [← HFL.out] at hf
                have hOn := (Only.refl (fun z => z ∈ bs) x2).putB (b := b) (.cells (List.take (j * 12) (placesC t1) ++ (pl0.cells ++ List.drop (j * 12 + pl0.cells.length) (placesC t1))).toArray 120) (fun _ => HQ.out.2.2)
                refine ⟨j + 1, c1' + 1, t1.set j pl0, HJ.out, by simp, by simp, hf, HR.out.keep _ _ HX.out.2 hOn, HX.out.1.trans hOn, by rw [List.length_set]; exact HL'.out, ?_, ?_⟩
                · rw [← HM'.out, HQ.out.2.1, take_set _ _ _ (by rw [HL'.out]; exact HJ.out), drop_set]
                  simp [loseP, HBB.out]
                · rw [← HC'.out, HQ.out.2.1, drop_set]
                  simp [cntP, HBB.out]
                  omega
              case measure => have := HJ.out; (simp [intOf]) <;> omega
end
end Go.Proofs.Ytfiofjalpaeohaa
