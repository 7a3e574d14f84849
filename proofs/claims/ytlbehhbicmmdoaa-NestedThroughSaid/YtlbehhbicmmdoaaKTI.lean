/- Texts on the way to the statement NestedThrough, several in one file: each part says what it is. -/
import Derived.Test.YtlbehhbicmmdoaaKTF
import Derived.Test.YtlbehhbicmmdoaaKTH
namespace Go.Proofs.Ytlbehhbicmmdoaa
set_option linter.unusedVariables false
set_option linter.unusedSimpArgs false
open Go.RowKit
section
variable {w0 x y : World} {p N : Nat} {B : Nat → Prop} {wd : Nat → Nat} {pg : Int → Option (List Nat)}
/-- A memory by its pages, under way. -/
def MvS (w0 : World) (p N : Nat) (B : Nat → Prop) (pg : Int → Option (List Nat)) (x : World) : Prop :=
  ∃ X : Nat → Prop, (∀ b, b < w0.heap.size → X b) ∧ (∀ b, B b → b < x.heap.size → X b) ∧ (∀ b, X b → b < x.heap.size) ∧ (∃ ops, ops ≤ N ∧ IsMem x X p 40 pg ops) ∧ Old w0 x
def KeepB (B : Nat → Prop) (x y : World) : Prop := ∀ b o, B b → x.heap[b]? = some o → y.heap[b]? = some o
theorem mv_of (h : MemS w0 p wd N B x) : ∃ pg, MvS w0 p N B pg x ∧ ∀ a, okM 40 a = true → wordOf pg a 8 = wd a := by
  obtain ⟨X, h1, h2, ⟨pg, ops, h3, h4, h5⟩, h6⟩ := h
  exact ⟨pg, ⟨fun b => X b ∧ b < x.heap.size, fun b hb => ⟨h1 b hb, Nat.lt_of_lt_of_le hb h6.size⟩, fun b hb hx => ⟨h2 b hb, hx⟩, fun b hb => hb.2, ⟨ops, h3, mem_more h4 (fun b hb => .inl hb.1)⟩, h6⟩, h5⟩
theorem mv_mem (h : MvS w0 p N B pg x) (hB : ∀ b, B b → b < x.heap.size) (hw : ∀ a, okM 40 a = true → wordOf pg a 8 = wd a) : MemS w0 p wd N B x := by
  obtain ⟨X, h1, h2, h3, ⟨ops, h4, h5⟩, h6⟩ := h
  exact ⟨X, h1, fun b hb => h2 b hb (hB b hb), ⟨pg, ops, h4, h5, hw⟩, h6⟩
theorem mv_old (h : MvS w0 p N B pg x) (ho : Old x y) (hB : ∀ b, B b → b < x.heap.size) : MvS w0 p N B pg y := by
  obtain ⟨X, h1, h2, h3, ⟨ops, h4, h5⟩, h6⟩ := h
  exact ⟨X, h1, fun b hb _ => h2 b hb (hB b hb), fun b hb => Nat.lt_of_lt_of_le (h3 b hb) ho.size, ⟨ops, h4, mem_old h5 ho⟩, old_then h6 ho⟩
theorem mv_ret {v : Value} {X : Nat → Prop} {ops : Nat} {e : Ending} (h1 : ∀ b, b < w0.heap.size → X b) (h2 : ∀ b, B b → b < x.heap.size → X b) (h3 : ∀ b, X b → b < x.heap.size) (hN : ops ≤ N) (h6 : Old w0 x) (hB : ∀ b, B b → b < x.heap.size) (hr : RetMem x X p 40 v pg ops e y) :
    e = .returned v ∧ MvS w0 p N B pg y ∧ KeepB B x y ∧ x.heap.size ≤ y.heap.size := by
  obtain ⟨he, hm, ho⟩ := hr
  refine ⟨he, ⟨X, h1, fun b hb _ => h2 b hb (hB b hb), fun b hb => Nat.lt_of_lt_of_le (h3 b hb) ho.size, ⟨ops, hN, hm⟩, ?_⟩, fun b o hb hx => keep_only ho (fun f => f (h2 b hb (hB b hb))) hx, ho.size⟩
  exact Only.to_below ((Only.of_below h6).step ho (fun b hb f => by
    have := h1 b
    exact absurd (this (by omega)) f))
theorem mv_get (h : MvS w0 p N B pg x) (i : Nat) (hi : i < 40) : Calls Try.prog 39 #[.pointer (some ⟨p, 0, none⟩), .int .i64 (i : Nat)] x
    (fun e y => ∃ g c, e = .returned (.tuple #[.slice (some ⟨g, 0, none⟩) 4096 c, .int .i64 0]) ∧ Bytes y (some ⟨g, 0, none⟩) c (pageOf pg (i : Nat)) ∧ Old x y) := by
  obtain ⟨X, h1, h2, h3, ⟨ops, h4, h5⟩, h6⟩ := h
  refine (get_page2 h5 (i : Nat) (by unfold hasB; simp; omega)).mono ?_
  rintro e y ⟨g, c, rfl, hr, ho⟩
  exact ⟨g, c, rfl, row_bytes hr, ho⟩
theorem mv_set (h : MvS w0 p N B pg x) (hB : ∀ b, B b → b < x.heap.size) (i : Nat) (hi : i < 40) (g c : Nat) (l : List Nat) (hb : Bytes x (some ⟨g, 0, none⟩) c l) (hl : l.length = 4096) :
    Calls Try.prog 41 #[.pointer (some ⟨p, 0, none⟩), .int .i64 (i : Nat), .slice (some ⟨g, 0, none⟩) 4096 c] x
    (fun e y => e = .returned (.int .i64 0) ∧ MvS w0 p N B (updP pg (i : Nat) (some l)) y ∧ KeepB B x y ∧ x.heap.size ≤ y.heap.size) := by
  obtain ⟨X, h1, h2, h3, ⟨ops, h4, h5⟩, h6⟩ := h
  exact (set_ok2 h5 h3 (i : Nat) ⟨g, 0, none⟩ c l (by unfold hasB; simp; omega) hb hl).mono fun e y hr => mv_ret h1 h2 h3 h4 h6 hB hr
theorem mv_zero (h : MvS w0 p N B pg x) (hB : ∀ b, B b → b < x.heap.size) (i : Nat) (hi : i < 40) :
    Calls Try.prog 42 #[.pointer (some ⟨p, 0, none⟩), .int .i64 (i : Nat)] x
    (fun e y => e = .returned (.int .i64 0) ∧ MvS w0 p N B (updP pg (i : Nat) none) y ∧ KeepB B x y ∧ x.heap.size ≤ y.heap.size) := by
  obtain ⟨X, h1, h2, h3, ⟨ops, h4, h5⟩, h6⟩ := h
  exact (zero_ok2 h5 (i : Nat) (by unfold hasB; simp; omega)).mono fun e y hr => mv_ret h1 h2 h3 h4 h6 hB hr
theorem memS_write (h : MemS w0 p wd N B x) (hB : ∀ b, B b → b < x.heap.size) (hN : N < 3999999990) (a v : Nat) (ha : okM 40 a = true) (ha64 : a < 18446744073709551616) (hv : v < 18446744073709551616) :
    Calls Try.prog 38 #[.pointer (some ⟨p, 0, none⟩), .int .u64 (a : Nat), .int .i64 8, .int .u64 (v : Nat)] x (fun e y => e = .returned (.int .i64 0) ∧ MemS w0 p (updW wd a v) (N + 1) B y ∧ KeepB B x y ∧ x.heap.size ≤ y.heap.size) := by
  obtain ⟨X, h1, h2, h3, h4⟩ := h
  have h3' : IsMemW x (fun b => X b ∧ b < x.heap.size) p 40 wd N := memW_more h3 (fun b hb => .inl hb.1)
  refine (memW_write h3' (fun b hb => hb.2) (by omega) a v ha64 hv ha).mono ?_
  rintro e y ⟨rfl, hm, ho⟩
  refine ⟨rfl, ⟨_, fun b hb => ⟨h1 b hb, Nat.lt_of_lt_of_le hb h4.size⟩, fun b hb => ⟨h2 b hb, hB b hb⟩, hm, ?_⟩, fun b o hb hx => keep_only ho (fun f => f ⟨h2 b hb, hB b hb⟩) hx, ho.size⟩
  exact Only.to_below ((Only.of_below h4).step ho (fun b hb f => absurd ⟨h1 b hb, Nat.lt_of_lt_of_le hb h4.size⟩ f))
theorem memS_low {B' : Nat → Prop} (h : MemS w0 p wd N B x) (hB : ∀ b, B' b → B b ∨ b < w0.heap.size) : MemS w0 p wd N B' x := by
  obtain ⟨X, h1, h2, h3, h4⟩ := h
  exact ⟨X, h1, fun b hb => (hB b hb).elim (h2 b) (h1 b), h3, h4⟩
theorem mv_len (h : MvS w0 p N B pg x) (k : Int) : (pageOf pg k).length = 4096 := by
  obtain ⟨X, h1, h2, h3, ⟨ops, h4, h5⟩, h6⟩ := h
  exact pageOf_length h5 k
theorem words_move {lv : Nat} (hw : ∀ a, okM 40 a = true → wordOf pg a 8 = wdT1 lv a) : ∀ a, okM 40 a = true → wordOf (updP (updP pg ((36 : Nat) : Int) (some (pageOf pg (frN lv : Nat)))) (frN lv : Nat) none) a 8 = wdM lv a := by
  intro a ha
  have hok := of_decide_eq_true ha
  have hfr := frN_lt lv
  unfold wdM
  by_cases h1 : a / 4096 = frN lv
  · rw [if_pos h1]
    unfold wordOf pageOf updP
    rw [h1, if_pos rfl]
    exact getN_nought _ _
  · rw [if_neg h1]
    by_cases h2 : a / 4096 = 36
    · rw [if_pos h2]
      have hb : okM 40 (frN lv * 4096 + a % 4096) = true := decide_eq_true ⟨by omega, by omega⟩
      rw [← hw _ hb]
      unfold wordOf
      rw [h2, show (frN lv * 4096 + a % 4096) / 4096 = frN lv by omega, show (frN lv * 4096 + a % 4096) % 4096 = a % 4096 by omega]
      congr 1
      show (updP (updP pg ((36 : Nat) : Int) (some (pageOf pg (frN lv : Nat)))) (frN lv : Nat) none ((36 : Nat) : Int)).getD zeros4096 = _
      unfold updP
      rw [if_neg (by omega), if_pos rfl]
      rfl
    · rw [if_neg h2, ← hw a ha]
      unfold wordOf pageOf updP
      rw [if_neg (by omega), if_neg (by omega)]
end
set_option maxHeartbeats 16000000 in
set_option maxRecDepth 100000 in
theorem nestedThrough_walk (li : Int) (_ : (Lit.int .i64 li).wf = true) (vi : Int) (hv0 : (Lit.int .u64 vi).wf = true) (ac : Int) (_ : (Lit.int .i64 ac).wf = true) (w : World) :
    Calls Try.prog 13 #[.int .i64 li, .int .u64 vi, .int .i64 ac] w (RetB w (.bool true)) := by
  obtain ⟨va, rfl, hva⟩ := wf_u64 hv0
  obtain ⟨AT, hAT⟩ : ∃ AT, va % 65536 = AT := ⟨_, rfl⟩
  have hATi : (va : Int) % 65536 = (AT : Int) := by rw [← hAT]; rfl
  obtain ⟨lv, -, l1, l2, -⟩ := access_of li
  obtain ⟨M, r, k1, k2, k3, k4, k6, k7, k8⟩ := access_of ac
  obtain ⟨P, hP⟩ : ∃ P, AT / 4096 = P := ⟨_, rfl⟩
  have hPi : (AT : Int) / 4096 = (P : Int) := by rw [← hP]; rfl
  obtain ⟨xo, hxo⟩ : ∃ xo, AT % 4096 = xo := ⟨_, rfl⟩
  have hsplit : AT = P * 4096 + xo ∧ P < 16 ∧ xo < 4096 := by omega
  obtain ⟨sto, hsto⟩ : ∃ sto, decide (1 + r = 2) = sto := ⟨_, rfl⟩
  have hst2 : (1 + r == 2) = sto := by rw [← hsto]; rfl
  obtain ⟨A, hA⟩ : ∃ A, 16384 + 8 * lv = A := ⟨_, rfl⟩
  have hAi : 16384 + (lv : Int) * 8 = (A : Int) := by omega
  have lv3 : (lv : Int) ≤ 3 := by omega
  have HL := Lib.hid (And.intro l2 (And.intro hsplit (And.intro hsto (And.intro hA hPi))))
  have HK := Lib.hid (And.intro hAi hst2)
  have hw := world14_calls w none [] 0 (by simp [maxLen]) (fun i y h => by simp at h)
  have HW := Lib.hid hw
  clear hv0 hva hAT hP hxo hsplit hsto hA hPi l2 hw hAi hst2
  go_enter Try.func13, Try.ntmps13
  go_upto_region 5 with (fail)
  have hO := old_alloc (old_refl w) (.cells #[Value.int .u64 4096, .bool true, .int .u64 0] 71)
  have hvb := new_block w (.cells #[Value.int .u64 4096, .bool true, .int .u64 0] 71)
  generalize w.alloc (.cells #[Value.int .u64 4096, .bool true, .int .u64 0] 71) = W1 at *
  obtain ⟨vb, hvbe⟩ : ∃ vb, vb = w.heap.size := ⟨_, rfl⟩
  rw [← hvbe] at hvb ⊢
  have HV := Lib.hid (And.intro hO (And.intro hvb hvbe))
  have hw : Calls Try.prog 29 #[.slice none 0 0] W1 (RetWorld W1 []) := world14_calls W1 none [] 0 (by simp [maxLen]) (fun i y h => by simp at h)
  clear hO hvb hvbe HW
  go_wp2_with fail
  (with_reducible refine hw.mono ?_)
  rintro e x1 ⟨p, mb, wd, rfl, hS, hwd⟩
  obtain rfl := hwd rfl
  have hm := memS_of hS
  have hvb1 := keep_old (memS_word hm) HV.out.2.1
  have hm0 : MemS W1 p (wdC 16) 100 (fun b => b = vb) x1 := memS_low (memS_less hm (B' := fun _ => False) (fun _ f => f.elim)) (fun b hb => .inr (by rw [hb]; exact lt_of_block HV.out.2.1))
  have HM0 := Lib.hid (And.intro hm0 hvb1)
  obtain ⟨v1, -, -⟩ := of_block hvb1
  obtain ⟨q, hq⟩ : ∃ q, nestN (rawM 40 (wdC 16)) (okM 40) 4096 true 0 AT (1 + r) = q := ⟨_, rfl⟩
  have hc : Calls Try.prog 30 #[.pointer (some ⟨p, 0, none⟩), .agg #[.int .u64 4096, .bool true, .int .u64 0], .int .u64 (AT : Nat), .int .i64 (1 + r)] x1 (RetW W1 p (wdC 16) 124 (fun b => b = vb) x1 (nestN (rawM 40 (wdC 16)) (okM 40) 4096 true 0 AT (1 + r))) := memS_walk hm0 (by decide) 4096 0 AT true (by decide) (by decide) (by have := HL.out.2.1; omega) (1 + r)
  rw [hq] at hc
  obtain ⟨⟨ofr, oip, o1, o2, o3, o4, o5, o6⟩, ⟨fst, fk, flv, fad, fsto⟩, nq⟩ := q
  have HQ := Lib.hid hq
  clear hw hS hm hvb1 hm0 hq
  go_wp2_with fail
  (with_reducible refine hc.mono ?_)
  rintro e y1 ⟨rfl, hm, hkk, hsz⟩
  have hvb1 := hkk vb _ rfl HM0.out.2
  have HM1 := Lib.hid (And.intro hm hvb1)
  clear hc hm hkk hsz v1 hvb1
  dsimp only [O8.cells, F5.cells]
  obtain ⟨Y1, hY1, hOY1, hob1, hfb1, hsY1, i1, i2⟩ := pair_new y1 #[Value.int .i64 0, .int .u64 0, .bool false, .bool false, .bool false, .bool false, .bool false, .bool false] #[Value.int .i64 0, .int .i64 0, .int .i64 0, .int .u64 0, .bool false] #[Value.int .i64 (ofr : Nat), .int .u64 (oip : Nat), .bool o1, .bool o2, .bool o3, .bool o4, .bool o5, .bool o6] #[Value.int .i64 fst, .int .i64 fk, .int .i64 flv, .int .u64 (fad : Nat), .bool fsto] 65 67
  have HY1 := Lib.hid (And.intro hOY1 (And.intro hob1 (And.intro hfb1 hsY1)))
  have HEY1 := Lib.hid hY1
  have I1Y1 := Lib.hid i1
  have I2Y1 := Lib.hid i2
  clear hY1 hOY1 hob1 hfb1 hsY1 i1 i2
  go_upto_region 9 with (first | (refine wpList_store_whole rfl 65 _ _ rfl y1.heap.size [Value.int .i64 (ofr : Nat), .int .u64 (oip : Nat), .bool o1, .bool o2, .bool o3, .bool o4, .bool o5, .bool o6] rfl rfl 65 _ I1Y1.out (by kernel_rfl) rfl (by intro v hv; simp only [List.mem_cons, List.not_mem_nil, or_false] at hv; rcases hv with rfl | rfl | rfl | rfl | rfl | rfl | rfl | rfl <;> rfl) ?_) | (refine wpList_store_whole rfl 67 _ _ rfl (y1.heap.size + 1) [Value.int .i64 fst, .int .i64 fk, .int .i64 flv, .int .u64 (fad : Nat), .bool fsto] rfl rfl 67 _ I2Y1.out (by kernel_rfl) rfl (by intro v hv; simp only [List.mem_cons, List.not_mem_nil, or_false] at hv; rcases hv with rfl | rfl | rfl | rfl | rfl <;> rfl) ?_))
  rw [← HEY1.out]
  clear HEY1 I1Y1 I2Y1
  obtain ⟨fb1, hfb1⟩ : ∃ fb1, fb1 = y1.heap.size + 1 := ⟨_, rfl⟩
  obtain ⟨ob1, hob1⟩ : ∃ ob1, ob1 = y1.heap.size := ⟨_, rfl⟩
  rw [← hfb1, ← hob1]
  rw [← hfb1, ← hob1] at HY1
  have HBY1 := Lib.hid (And.intro hob1 hfb1)
  clear hfb1 hob1
  obtain ⟨BB, hBB⟩ : ∃ BB : Nat → Prop, BB = (fun b => b = vb ∨ b = ob1 ∨ b = fb1) := ⟨_, rfl⟩
  have hmY : MemS W1 p (wdC 16) 124 BB Y1 := memS_new HM1.out.1 HY1.out.1 (fun b hb => by rw [hBB] at hb; have := HBY1.out; rcases hb with hb | hb | hb; exact .inl hb; exact .inr (by omega); exact .inr (by omega))
  have hlt : ∀ b, BB b → b < Y1.heap.size := fun b hb => by
    rw [hBB] at hb
    have h1 := lt_of_block (keep_old HY1.out.1 HM1.out.2); have h2 := lt_of_block HY1.out.2.1; have h3 := lt_of_block HY1.out.2.2.1
    rcases hb with hb | hb | hb <;> rw [hb] <;> assumption
  have hb1 : BB vb ∧ BB ob1 ∧ BB fb1 := by rw [hBB]; exact ⟨.inl rfl, .inr (.inl rfl), .inr (.inr rfl)⟩
  have HBB := Lib.hid (And.intro hlt hb1)
  have HKB := Lib.hid (And.intro (keep_old HY1.out.1 HM1.out.2) (And.intro HY1.out.2.1 HY1.out.2.2.1))
  have hT1 : updW (wdC 16) A 0 = wdT1 lv := by rw [← HL.out.2.2.2.1]; rfl
  have hAo : okM 40 A = true := okM40 (by have := HL.out.2.2.2.1; omega) (by have := HL.out.2.2.2.1; have := HL.out.1; omega)
  have hA64 : A < 18446744073709551616 := by have := HL.out.2.2.2.1; have := HL.out.1; omega
  have hc : Calls Try.prog 38 #[.pointer (some ⟨p, 0, none⟩), .int .u64 (A : Nat), .int .i64 8, .int .u64 0] Y1 (fun e y => e = .returned (.int .i64 0) ∧ MemS W1 p (updW (wdC 16) A 0) 125 BB y ∧ KeepB BB Y1 y ∧ Y1.heap.size ≤ y.heap.size) := memS_write hmY hlt (by decide) A 0 hAo hA64 (by decide)
  rw [hT1] at hc
  have HAO := Lib.hid (And.intro hAo hA64)
  obtain ⟨hAi, hst2⟩ := HK.out
  clear hBB hmY hlt hb1 hT1 hAo hA64
  go_wp2_with fail
  (with_reducible refine hc.mono ?_)
  rintro e y2 ⟨rfl, hm, hkk, hsz⟩
  have HKC := Lib.hid (And.intro (hkk vb _ HBB.out.2.1 HKB.out.1) (And.intro (hkk ob1 _ HBB.out.2.2.1 HKB.out.2.1) (hkk fb1 _ HBB.out.2.2.2 HKB.out.2.2)))
  obtain ⟨v1, -, -⟩ := of_block HKC.out.1
  have HS2 := Lib.hid hsz
  obtain ⟨I, hI⟩ : ∃ I, (if lv = 3 then P else 0) = I := ⟨_, rfl⟩
  obtain ⟨F1, hF1⟩ : ∃ F1, lv * 4096 + 8 * I = F1 := ⟨_, rfl⟩
  have hF1i : (lv : Int) * 4096 + 8 * (I : Int) = (F1 : Int) := by omega
  have hI16 : (I : Int) < 16 := by have := HL.out.2.1.2.1; rw [← hI]; split <;> omega
  have hbad : (nestN (rawM 40 (wdT1 lv)) (okM 40) 4096 true 0 AT (1 + r)).2.1 = ⟨2, 1, (lv : Int), F1, sto⟩ := by
    rw [HL.out.2.1.1, through_bad (by have := HL.out.1; omega) HL.out.2.1.2.1 HL.out.2.1.2.2, hI, hF1, HL.out.2.2.1]
  obtain ⟨qo, qn, hqe⟩ : ∃ (qo : O8) (qn : Nat), nestN (rawM 40 (wdT1 lv)) (okM 40) 4096 true 0 AT (1 + r) = (qo, ⟨2, 1, (lv : Int), F1, sto⟩, qn) := ⟨(nestN (rawM 40 (wdT1 lv)) (okM 40) 4096 true 0 AT (1 + r)).1, (nestN (rawM 40 (wdT1 lv)) (okM 40) 4096 true 0 AT (1 + r)).2.2, by rw [← hbad]⟩
  have hc : Calls Try.prog 30 #[.pointer (some ⟨p, 0, none⟩), .agg #[.int .u64 4096, .bool true, .int .u64 0], .int .u64 (AT : Nat), .int .i64 (1 + r)] y2 (RetW W1 p (wdT1 lv) 149 BB y2 (nestN (rawM 40 (wdT1 lv)) (okM 40) 4096 true 0 AT (1 + r))) := memS_walk hm (by decide) 4096 0 AT true (by decide) (by decide) (by have := HL.out.2.1; omega) (1 + r)
  rw [hqe] at hc
  obtain ⟨pfr, pip, p1, p2, p3, p4, p5, p6⟩ := qo
  have HI := Lib.hid (And.intro hI hF1i)
  clear hm hkk hsz hqe hbad hI hF1 hF1i
  go_wp2_with fail
  (with_reducible refine hc.mono ?_)
  rintro e y3 ⟨rfl, hm, hkk, hsz⟩
  have HKD := Lib.hid (And.intro (hkk vb _ HBB.out.2.1 HKC.out.1) (And.intro (hkk ob1 _ HBB.out.2.2.1 HKC.out.2.1) (hkk fb1 _ HBB.out.2.2.2 HKC.out.2.2)))
  have HM3 := Lib.hid hm
  have HSZ := Lib.hid (show Y1.heap.size ≤ y3.heap.size by have := HS2.out; omega)
  clear hc hm hkk hsz v1
  dsimp only [O8.cells, F5.cells]
  obtain ⟨Y3, hY3, hOY3, hob2, hfb2, hsY3, i1, i2⟩ := pair_new y3 #[Value.int .i64 0, .int .u64 0, .bool false, .bool false, .bool false, .bool false, .bool false, .bool false] #[Value.int .i64 0, .int .i64 0, .int .i64 0, .int .u64 0, .bool false] #[Value.int .i64 (pfr : Nat), .int .u64 (pip : Nat), .bool p1, .bool p2, .bool p3, .bool p4, .bool p5, .bool p6] #[Value.int .i64 2, .int .i64 1, .int .i64 (lv : Nat), .int .u64 (F1 : Nat), .bool sto] 65 67
  have HY3 := Lib.hid (And.intro hOY3 (And.intro hob2 (And.intro hfb2 hsY3)))
  have HEY3 := Lib.hid hY3
  have I1Y3 := Lib.hid i1
  have I2Y3 := Lib.hid i2
  clear hY3 hOY3 hob2 hfb2 hsY3 i1 i2
  go_upto_region 12 with (first | (refine wpList_store_whole rfl 65 _ _ rfl y3.heap.size [Value.int .i64 (pfr : Nat), .int .u64 (pip : Nat), .bool p1, .bool p2, .bool p3, .bool p4, .bool p5, .bool p6] rfl rfl 65 _ I1Y3.out (by kernel_rfl) rfl (by intro v hv; simp only [List.mem_cons, List.not_mem_nil, or_false] at hv; rcases hv with rfl | rfl | rfl | rfl | rfl | rfl | rfl | rfl <;> rfl) ?_) | (refine wpList_store_whole rfl 67 _ _ rfl (y3.heap.size + 1) [Value.int .i64 2, .int .i64 1, .int .i64 (lv : Nat), .int .u64 (F1 : Nat), .bool sto] rfl rfl 67 _ I2Y3.out (by kernel_rfl) rfl (by intro v hv; simp only [List.mem_cons, List.not_mem_nil, or_false] at hv; rcases hv with rfl | rfl | rfl | rfl | rfl <;> rfl) ?_))
  rw [← HEY3.out]
  clear HEY3 I1Y3 I2Y3
  obtain ⟨fb2, hfb2⟩ : ∃ fb2, fb2 = y3.heap.size + 1 := ⟨_, rfl⟩
  obtain ⟨ob2, hob2⟩ : ∃ ob2, ob2 = y3.heap.size := ⟨_, rfl⟩
  rw [← hfb2, ← hob2]
  rw [← hfb2, ← hob2] at HY3
  have HBY3 := Lib.hid (And.intro hob2 hfb2)
  clear hfb2 hob2
  go_upto_if 66 with (fail)
  refine wp_cutF [false, false, false, false, false, false, false, false, false, false, false, false, false, false, false, false, false, false, false, true, false, false, false, false, false, false, false, false, false, false, false, false, false, false, false, false, false, false, false, false, false, false, false, false, false, false, false, false, false, false, false, false, false, false, false, false, false, false, false, false, false, false, false, false, false, true, true, true, true] (fun f x => f 19 = .int .u64 (I : Nat) ∧ x = Y3) ?rest1 ?first1
  case first1 =>
    intro J1 K1 hJ1 hM1
    have hPi := HL.out.2.2.2.2
    by_cases h3 : lv = 3
    · have d : ((lv : Int) == 3) = true := by simp [h3]
      rw [d]
      have hIP : Hid (P = I) := Lib.hid (by rw [← HI.out.1, if_pos h3])
      clear h3
      go_wp2
      exact Met.intro (hJ1 _ _ (by kernel_rfl) ⟨by rw [← hIP.out]; rfl, rfl⟩)
    · have d : ((lv : Int) == 3) = false := by simp; omega
      rw [d]
      have hI0 : Hid (0 = I) := Lib.hid (by rw [← HI.out.1, if_neg h3])
      clear h3
      go_wp2
      exact Met.intro (hJ1 _ _ (by kernel_rfl) ⟨by rw [← hI0.out]; rfl, rfl⟩)
  case rest1 =>
  intro f6 x6 hcut
  dsimp only [mergeA, mergeL, Nat.reduceAdd]
  obtain ⟨h19, rfl⟩ := hcut
  rw [h19]
  have hF1i := HI.out.2
  have he2 : ∀ y, (Op.equalIn 10000 67 (.agg #[Value.int .i64 2, .int .i64 1, .int .i64 (lv : Nat), .int .u64 (F1 : Nat), .bool sto]) (.agg #[Value.int .i64 2, .int .i64 1, .int .i64 (lv : Nat), .int .u64 (F1 : Nat), .bool sto])).run Try.prog y = .ok true y := fun y => eq_fau_self ⟨2, 1, lv, F1, sto⟩ y
  obtain ⟨j2, -, -⟩ := of_block HY3.out.2.2.1
  have hfr := frame14_calls lv (by have := HL.out.1; omega) x6
  have HF6 := Lib.hid hF1i
  clear h19
  go_wp2_with fail
  (with_reducible refine hfr.mono ?_)
  rintro e y4 ⟨rfl, hO4⟩
  have HKE := Lib.hid (And.intro (keep_old HY3.out.1 HKD.out.1) (And.intro (keep_old HY3.out.1 HKD.out.2.1) (keep_old HY3.out.1 HKD.out.2.2)))
  have hltS : ∀ z : World, Y1.heap.size ≤ z.heap.size → ∀ b, BB b → b < z.heap.size := fun z hz b hb => Nat.lt_of_lt_of_le (HBB.out.1 b hb) hz
  have HLT := Lib.hid hltS
  obtain ⟨pg, hmv, hwd⟩ := mv_of (memS_old HM3.out (old_then HY3.out.1 hO4))
  have hs4 : Y1.heap.size ≤ y4.heap.size := by have h1 := HSZ.out; have h2 := HY3.out.1.size; have h3 := hO4.size; omega
  have hc := mv_get hmv (frN lv) (by have := frN_lt lv; omega)
  have HMV := Lib.hid (And.intro hmv (And.intro hwd hs4))
  have HKF := Lib.hid (And.intro (keep_old hO4 HKE.out.1) (And.intro (keep_old hO4 HKE.out.2.1) (keep_old hO4 HKE.out.2.2)))
  clear hfr hO4 hltS hmv hwd hs4 he2 j2
  go_wp2_with fail
  (with_reducible refine hc.mono ?_)
  rintro e y5 ⟨g, cc, rfl, hby, hO5⟩
  have hmv5 := mv_old HMV.out.1 hO5 (HLT.out _ HMV.out.2.2)
  have hs5 : Y1.heap.size ≤ y5.heap.size := Nat.le_trans HMV.out.2.2 hO5.size
  have hl5 := mv_len HMV.out.1 (frN lv : Nat)
  have hc : Calls Try.prog 41 #[.pointer (some ⟨p, 0, none⟩), .int .i64 36, .slice (some ⟨g, 0, none⟩) 4096 cc] y5 (fun e y => e = .returned (.int .i64 0) ∧ MvS W1 p 149 BB (updP pg ((36 : Nat) : Int) (some (pageOf pg (frN lv : Nat)))) y ∧ KeepB BB y5 y ∧ y5.heap.size ≤ y.heap.size) := mv_set hmv5 (HLT.out _ hs5) 36 (by decide) g cc _ hby hl5
  have HKG := Lib.hid (And.intro (keep_old hO5 HKF.out.1) (And.intro (keep_old hO5 HKF.out.2.1) (keep_old hO5 HKF.out.2.2)))
  have HS5 := Lib.hid hs5
  clear hby hO5 hmv5 hs5 hl5
  go_wp2_with fail
  (with_reducible refine hc.mono ?_)
  rintro e y6 ⟨rfl, hmv6, hk6, hz6⟩
  have hfr := frame14_calls lv (by have := HL.out.1; omega) y6
  have HM6 := Lib.hid (And.intro hmv6 (Nat.le_trans HS5.out hz6))
  have HKH := Lib.hid (And.intro (hk6 vb _ HBB.out.2.1 HKG.out.1) (And.intro (hk6 ob1 _ HBB.out.2.2.1 HKG.out.2.1) (hk6 fb1 _ HBB.out.2.2.2 HKG.out.2.2)))
  clear hc hmv6 hk6 hz6
  go_wp2_with fail
  (with_reducible refine hfr.mono ?_)
  rintro e y7 ⟨rfl, hO7⟩
  have hmv7 := mv_old HM6.out.1 hO7 (HLT.out _ HM6.out.2)
  have hs7 : Y1.heap.size ≤ y7.heap.size := Nat.le_trans HM6.out.2 hO7.size
  have hc := mv_zero hmv7 (HLT.out _ hs7) (frN lv) (by have := frN_lt lv; omega)
  have HKI := Lib.hid (And.intro (keep_old hO7 HKH.out.1) (And.intro (keep_old hO7 HKH.out.2.1) (keep_old hO7 HKH.out.2.2)))
  have HS7 := Lib.hid hs7
  clear hfr hO7 hmv7 hs7
  go_wp2_with fail
  (with_reducible refine hc.mono ?_)
  rintro e y8 ⟨rfl, hmv8, hk8, hz8⟩
  have hm8 := mv_mem hmv8 (HLT.out _ (Nat.le_trans HS7.out hz8)) (words_move HMV.out.2.1)
  have HM8 := Lib.hid (And.intro hm8 (Nat.le_trans HS7.out hz8))
  have HKJ := Lib.hid (And.intro (hk8 vb _ HBB.out.2.1 HKI.out.1) (And.intro (hk8 ob1 _ HBB.out.2.2.1 HKI.out.2.1) (hk8 fb1 _ HBB.out.2.2.2 HKI.out.2.2)))
  have hwc : Calls Try.prog 43 #[.int .i64 2, .int .i64 3, .agg #[.int .i64 3, .int .u64 147456, .bool true, .bool false, .bool false, .int .i64 0]] y8 (RetB y8 (.int .u64 (encP : Nat))) := word14_calls 2 3 3 147456 true false false 0 y8
  clear hc hmv8 hk8 hz8 hm8
  go_wp2_with fail
  (with_reducible refine hwc.mono ?_)
  rintro e z1 ⟨rfl, hOz⟩
  have hmz := memS_old HM8.out.1 hOz
  have hsz : Y1.heap.size ≤ z1.heap.size := Nat.le_trans HM8.out.2 hOz.size
  have henc : encP < 18446744073709551616 := by decide +kernel
  have hc := memS_write hmz (HLT.out _ hsz) (by decide) A encP HAO.out.1 HAO.out.2 henc
  have hT2 : updW (wdM lv) A encP = wdT2 lv := by rw [← HL.out.2.2.2.1]; rfl
  rw [hT2] at hc
  have HKL := Lib.hid (And.intro (keep_old hOz HKJ.out.1) (And.intro (keep_old hOz HKJ.out.2.1) (keep_old hOz HKJ.out.2.2)))
  clear hwc hOz hmz hsz henc hT2
  go_wp2_with fail
  (with_reducible refine hc.mono ?_)
  rintro e z2 ⟨rfl, hm, hkk, hsz⟩
  have HKM := Lib.hid (And.intro (hkk vb _ HBB.out.2.1 HKL.out.1) (And.intro (hkk ob1 _ HBB.out.2.2.1 HKL.out.2.1) (hkk fb1 _ HBB.out.2.2.2 HKL.out.2.2)))
  obtain ⟨v1, -, -⟩ := of_block HKM.out.1
  have hq2 : nestN (rawM 40 (wdT2 lv)) (okM 40) 4096 true 0 AT (1 + r) = (⟨ofr, oip, o1, o2, o3, o4, o5, o6⟩, ⟨fst, fk, flv, fad, fsto⟩, nq) := by
    rw [← HQ.out, HL.out.2.1.1]
    exact through_same (by have := HL.out.1; omega) HL.out.2.1.2.1 HL.out.2.1.2.2 (1 + r)
  have hc : Calls Try.prog 30 #[.pointer (some ⟨p, 0, none⟩), .agg #[.int .u64 4096, .bool true, .int .u64 0], .int .u64 (AT : Nat), .int .i64 (1 + r)] z2 (RetW W1 p (wdT2 lv) 174 BB z2 (nestN (rawM 40 (wdT2 lv)) (okM 40) 4096 true 0 AT (1 + r))) := memS_walk hm (by decide) 4096 0 AT true (by decide) (by decide) (by have := HL.out.2.1; omega) (1 + r)
  rw [hq2] at hc
  clear hm hkk hsz hq2
  go_wp2_with fail
  (with_reducible refine hc.mono ?_)
  rintro e y9 ⟨rfl, hm, hkk, hsz⟩
  have HKN := Lib.hid (And.intro (hkk ob1 _ HBB.out.2.2.1 HKM.out.2.1) (hkk fb1 _ HBB.out.2.2.2 HKM.out.2.2))
  have HM9 := Lib.hid (memS_word hm)
  clear hc hm hkk hsz v1
  dsimp only [O8.cells, F5.cells]
  obtain ⟨Y9, hY9, hOY9, hob3, hfb3, hsY9, i1, i2⟩ := pair_new y9 #[Value.int .i64 0, .int .u64 0, .bool false, .bool false, .bool false, .bool false, .bool false, .bool false] #[Value.int .i64 0, .int .i64 0, .int .i64 0, .int .u64 0, .bool false] #[Value.int .i64 (ofr : Nat), .int .u64 (oip : Nat), .bool o1, .bool o2, .bool o3, .bool o4, .bool o5, .bool o6] #[Value.int .i64 fst, .int .i64 fk, .int .i64 flv, .int .u64 (fad : Nat), .bool fsto] 65 67
  have HY9 := Lib.hid (And.intro hOY9 (And.intro hob3 (And.intro hfb3 hsY9)))
  have HEY9 := Lib.hid hY9
  have I1Y9 := Lib.hid i1
  have I2Y9 := Lib.hid i2
  clear hY9 hOY9 hob3 hfb3 hsY9 i1 i2
  go_upto_region 21 with (first | (refine wpList_store_whole rfl 65 _ _ rfl y9.heap.size [Value.int .i64 (ofr : Nat), .int .u64 (oip : Nat), .bool o1, .bool o2, .bool o3, .bool o4, .bool o5, .bool o6] rfl rfl 65 _ I1Y9.out (by kernel_rfl) rfl (by intro v hv; simp only [List.mem_cons, List.not_mem_nil, or_false] at hv; rcases hv with rfl | rfl | rfl | rfl | rfl | rfl | rfl | rfl <;> rfl) ?_) | (refine wpList_store_whole rfl 67 _ _ rfl (y9.heap.size + 1) [Value.int .i64 fst, .int .i64 fk, .int .i64 flv, .int .u64 (fad : Nat), .bool fsto] rfl rfl 67 _ I2Y9.out (by kernel_rfl) rfl (by intro v hv; simp only [List.mem_cons, List.not_mem_nil, or_false] at hv; rcases hv with rfl | rfl | rfl | rfl | rfl <;> rfl) ?_))
  rw [← HEY9.out]
  clear HEY9 I1Y9 I2Y9
  obtain ⟨fb3, hfb3⟩ : ∃ fb3, fb3 = y9.heap.size + 1 := ⟨_, rfl⟩
  obtain ⟨ob3, hob3⟩ : ∃ ob3, ob3 = y9.heap.size := ⟨_, rfl⟩
  rw [← hfb3, ← hob3]
  rw [← hfb3, ← hob3] at HY9
  have HBY9 := Lib.hid (And.intro hob3 hfb3)
  clear hfb3 hob3
  have hOw : Old w Y9 := old_then HV.out.1 (old_then HM9.out HY9.out.1)
  have ht := told14_calls Y9
  have he0 : ∀ y, (Op.equalIn 10000 65 (.agg #[Value.int .i64 (ofr : Nat), .int .u64 (oip : Nat), .bool o1, .bool o2, .bool o3, .bool o4, .bool o5, .bool o6]) (.agg #[Value.int .i64 (ofr : Nat), .int .u64 (oip : Nat), .bool o1, .bool o2, .bool o3, .bool o4, .bool o5, .bool o6])).run Try.prog y = .ok true y := fun y => eq_out_self ⟨ofr, oip, o1, o2, o3, o4, o5, o6⟩ y
  have he1 : ∀ y, (Op.equalIn 10000 67 (.agg #[Value.int .i64 fst, .int .i64 fk, .int .i64 flv, .int .u64 (fad : Nat), .bool fsto]) (.agg #[Value.int .i64 fst, .int .i64 fk, .int .i64 flv, .int .u64 (fad : Nat), .bool fsto])).run Try.prog y = .ok true y := fun y => eq_fau_self ⟨fst, fk, flv, fad, fsto⟩ y
  have HOW := Lib.hid hOw
  clear hOw
  go_wp2_with fail
  (with_reducible refine ht.mono ?_)
  rintro e z3 ⟨rfl, hO3⟩
  obtain ⟨j1, -, -⟩ := of_block (keep_old hO3 (keep_old HY9.out.1 HKN.out.1))
  obtain ⟨j2, -, -⟩ := of_block (keep_old hO3 (keep_old HY9.out.1 HKN.out.2))
  obtain ⟨j3, -, -⟩ := of_block (keep_old hO3 HY9.out.2.1)
  obtain ⟨j4, -, -⟩ := of_block (keep_old hO3 HY9.out.2.2.1)
  have HO3 := Lib.hid hO3
  clear ht hO3
  go_wp2
  go_ret
  exact ⟨rfl, old_then HOW.out HO3.out⟩
end Go.Proofs.Ytlbehhbicmmdoaa
