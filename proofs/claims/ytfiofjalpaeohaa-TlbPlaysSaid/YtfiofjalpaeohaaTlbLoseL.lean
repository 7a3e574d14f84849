/- The statements of layer 15: lose on both sides. -/
import Derived.Test.YtfiofjalpaeohaaTlbPair
namespace Go.Proofs.Ytfiofjalpaeohaa
set_option linter.unusedVariables false
set_option linter.unusedSimpArgs false
open Go.RowKit

def TA (p gs : Nat) (bs : List Nat) (n wy : Nat) (T : List (List Pl)) (x : World) : Prop := IsTlb x p gs bs n wy T
def RA (q L n wy N : Nat) (F : List Pl) (x : World) : Prop := IsRT x q L n wy N F
def LoseC (W : World) (bs : List Nat) (L lb : Nat) (C : Array Value) (x : World) : Prop := Only (fun b => b ∈ bs ∨ b = L) W x ∧ x.heap[lb]? = some (.cells C 64)
/-- The two stand apart. -/
structure Sep (p gs : Nat) (bs : List Nat) (q L : Nat) : Prop where
  qb : ¬ q ∈ bs
  Lb : ¬ L ∈ bs
  pL : ¬ p = L
  gL : ¬ gs = L
section
variable {w x y W : World} {p gs : Nat} {bs : List Nat} {n wy q L N lb : Nat} {T T' : List (List Pl)} {F0 F1 : List Pl} {C : Array Value} {b : Bool}
theorem both_rt (h : bif b then RA q L n wy N F1 x else RA q L n wy N F0 x) (ho : Only (fun z => z ∈ bs) x y) (hs : Sep p gs bs q L) : bif b then RA q L n wy N F1 y else RA q L n wy N F0 y := by
  cases b with
  | false => exact rt_only h ho hs.qb hs.Lb
  | true => exact rt_only h ho hs.qb hs.Lb
theorem both_tlb (h : bif b then TA p gs bs n wy T' x else TA p gs bs n wy T x) (ho : Only (fun z => z = L) x y) (hs : Sep p gs bs q L) : bif b then TA p gs bs n wy T' y else TA p gs bs n wy T y := by
  cases b with
  | false => exact tlb_only h ho hs.pL hs.gL (fun c hc e => hs.Lb (by rw [← e]; exact hc))
  | true => exact tlb_only h ho hs.pL hs.gL (fun c hc e => hs.Lb (by rw [← e]; exact hc))
theorem loseC_a (h : LoseC W bs L lb C x) (ho : Only (fun z => z ∈ bs) x y) (h1 : ¬ lb ∈ bs) : LoseC W bs L lb C y := ⟨h.1.trans (ho.mono fun _ _ e => .inl e), keep_only ho h1 h.2⟩
theorem loseC_b (h : LoseC W bs L lb C x) (ho : Only (fun z => z = L) x y) (h1 : ¬ lb = L) : LoseC W bs L lb C y := ⟨h.1.trans (ho.mono fun _ _ e => .inr e), keep_only ho h1 h.2⟩
/-- What lose tells and leaves. -/
def RetL (w : World) (p gs : Nat) (bs : List Nat) (n wy q L N : Nat) (T' : List (List Pl)) (ct : Nat) (e : Ending) (y : World) : Prop :=
  e = .returned (.tuple #[.int .i64 (ct : Nat), .int .i64 (ct : Nat)]) ∧ IsTlb y p gs bs n wy T' ∧ IsRT y q L n wy N T'.flatten ∧ Only (fun b => b ∈ bs ∨ b = L) w y

set_option maxHeartbeats 8000000 in
set_option maxRecDepth 100000 in
theorem loseID_both {lid asid : Int} {vp ip : Nat} {fr : Int} {p0 p1 p2 s0 s1 s2 : Bool} {ct : Nat} (h : IsTlb w p gs bs n wy T) (hr : IsRT w q L n wy N T.flatten) (hs : Sep p gs bs q L)
    (hP : PairC p gs bs n wy q L N T T' 35 #[.pointer (some ⟨p, 0, none⟩), .int .i64 lid] 79 #[.pointer (some ⟨q, 0, none⟩), .agg #[.bool true, .bool false, .bool false, .bool false, .bool false, .int .i64 lid, .int .i64 asid, .int .u64 (vp : Nat), .int .u64 (ip : Nat), .int .i64 fr, .bool p0, .bool p1, .bool p2, .bool s0, .bool s1, .bool s2]] (.int .i64 (ct : Nat))) :
    Calls Try.prog 44 #[.pointer (some ⟨p, 0, none⟩), .pointer (some ⟨q, 0, none⟩), .int .i64 7, .agg #[Value.int .i64 lid, .int .i64 asid, .int .u64 (vp : Nat), .int .u64 (ip : Nat), .int .i64 fr, .bool p0, .bool p1, .bool p2, .bool s0, .bool s1, .bool s2]] w (RetL w p gs bs n wy q L N T' ct) := by
  have H := Lib.hid (And.intro h hr)
  have HP := Lib.hid hP
  have HB := Lib.hid (And.intro (tlb_lt h).2.2 (lt_of_block hr.hL))
  have HS0 := Lib.hid hs
  clear h hr hP hs
  go_enter Try.func44, Try.ntmps44
  go_upto_region 5 with (fail)
  have hlb := new_block w (.cells #[Value.int .i64 lid, .int .i64 asid, .int .u64 (vp : Nat), .int .u64 (ip : Nat), .int .i64 fr, .bool p0, .bool p1, .bool p2, .bool s0, .bool s1, .bool s2] 64)
  have hO := old_alloc (old_refl w) (.cells #[Value.int .i64 lid, .int .i64 asid, .int .u64 (vp : Nat), .int .u64 (ip : Nat), .int .i64 fr, .bool p0, .bool p1, .bool p2, .bool s0, .bool s1, .bool s2] 64)
  generalize w.alloc (.cells #[Value.int .i64 lid, .int .i64 asid, .int .u64 (vp : Nat), .int .u64 (ip : Nat), .int .i64 fr, .bool p0, .bool p1, .bool p2, .bool s0, .bool s1, .bool s2] 64) = W at *
  obtain ⟨lb, hlbe⟩ : ∃ lb, lb = w.heap.size := ⟨_, rfl⟩
  rw [← hlbe] at hlb ⊢
  have HSEP : Hid (Sep p gs bs q L ∧ ¬ lb ∈ bs ∧ ¬ lb = L) := Lib.hid ⟨HS0.out, fun e => (by have := HB.out.1 _ e; omega), fun e => (by have := HB.out.2; omega)⟩
  have h0 : PairS 3 7 (TA p gs bs n wy T) (TA p gs bs n wy T') (RA q L n wy N T.flatten) (RA q L n wy N T'.flatten) (LoseC W bs L lb #[Value.int .i64 lid, .int .i64 asid, .int .u64 (vp : Nat), .int .u64 (ip : Nat), .int .i64 fr, .bool p0, .bool p1, .bool p2, .bool s0, .bool s1, .bool s2]) (Array.replicate 10 false) W.drew :=
    pairS_start (tlb_old H.out.1 (old_drew hO)) (rt_old H.out.2 (old_drew hO)) ⟨(Only.refl _ W).drew, hlb⟩
  have HO := Lib.hid hO
  clear hlb hO hlbe
  refine wp_region_staged (S := PairS 3 7 (TA p gs bs n wy T) (TA p gs bs n wy T') (RA q L n wy N T.flatten) (RA q L n wy N T'.flatten) (LoseC W bs L lb #[Value.int .i64 lid, .int .i64 asid, .int .u64 (vp : Nat), .int .u64 (ip : Nat), .int .i64 fr, .bool p0, .bool p1, .bool p2, .bool s0, .bool s1, .bool s2])) 10 (by kernel_rfl) (by kernel_rfl) (by kernel_rfl) (by decide) h0 ?_
  clear h0
  apply walkedS_cons
  · intro l9 wS hz hn hS
    have HD := Lib.hid (pairS_other 0 (by decide) (by decide) hS)
    obtain ⟨k9, -, -⟩ := of_block hS.2.2.2
    clear hS hz hn
    go_wp2
    exact ⟨rfl, rfl, HD.out⟩
  · rfl
  (try simp only [Act.put, List.setIfInBounds_toArray, List.set_cons_succ, List.set_cons_zero])
  apply walkedS_cons
  · intro l9 wS hz hn hS
    have HD := Lib.hid (pairS_other 1 (by decide) (by decide) hS)
    obtain ⟨k9, -, -⟩ := of_block hS.2.2.2
    clear hS hz hn
    go_wp2
    exact ⟨rfl, rfl, HD.out⟩
  · rfl
  (try simp only [Act.put, List.setIfInBounds_toArray, List.set_cons_succ, List.set_cons_zero])
  apply walkedS_cons
  · intro l9 wS hz hn hS
    have HD := Lib.hid (pairS_other 2 (by decide) (by decide) hS)
    obtain ⟨k9, -, -⟩ := of_block hS.2.2.2
    clear hS hz hn
    go_wp2
    exact ⟨rfl, rfl, HD.out⟩
  · rfl
  (try simp only [Act.put, List.setIfInBounds_toArray, List.set_cons_succ, List.set_cons_zero])
  apply walkedS_cons
  · intro l9 wS hz hn hS
    obtain ⟨hA, hB9, hC⟩ := hS
    rw [hn] at hA
    have hc := HP.out.a wS hA
    have HQ := Lib.hid (And.intro hz (And.intro hB9 hC))
    clear hA hB9 hC hz hn
    go_wp2_with fail
    (with_reducible refine hc.mono ?_)
    rintro e y9 ⟨rfl, hI, hO⟩
    have HD : Hid (PairS 3 7 (TA p gs bs n wy T) (TA p gs bs n wy T') (RA q L n wy N T.flatten) (RA q L n wy N T'.flatten) (LoseC W bs L lb #[Value.int .i64 lid, .int .i64 asid, .int .u64 (vp : Nat), .int .u64 (ip : Nat), .int .i64 fr, .bool p0, .bool p1, .bool p2, .bool s0, .bool s1, .bool s2]) (l9.setIfInBounds 3 true) y9) := Lib.hid (pairS_first HQ.out.1 (by decide) (by decide) hI (both_rt HQ.out.2.1 hO HSEP.out.1) (loseC_a HQ.out.2.2 hO HSEP.out.2.1))
    clear hI hO hc
    go_wp2
    exact ⟨rfl, rfl, HD.out⟩
  · rfl
  (try simp only [Act.put, List.setIfInBounds_toArray, List.set_cons_succ, List.set_cons_zero])
  apply walkedS_cons
  · intro l9 wS hz hn hS
    have HD := Lib.hid (pairS_other 4 (by decide) (by decide) hS)
    obtain ⟨k9, -, -⟩ := of_block hS.2.2.2
    clear hS hz hn
    go_wp2
    exact ⟨rfl, rfl, HD.out⟩
  · rfl
  (try simp only [Act.put, List.setIfInBounds_toArray, List.set_cons_succ, List.set_cons_zero])
  apply walkedS_cons
  · intro l9 wS hz hn hS
    have HD := Lib.hid (pairS_other 5 (by decide) (by decide) hS)
    have HL9 : Hid (∀ (c : Nat) (v : Value), [Value.int .i64 lid, .int .i64 asid, .int .u64 (vp : Nat), .int .u64 (ip : Nat), .int .i64 fr, .bool p0, .bool p1, .bool p2, .bool s0, .bool s1, .bool s2][c]? = some v → wS.cell? ⟨lb, 0 + c, none⟩ = some v) := Lib.hid (fun c v hv => by rw [Nat.zero_add, cell_of hS.2.2.2]; simpa using hv)
    clear hS hz hn
    go_wp2_with (refine wpList_load_at rfl 64 _ rfl lb 0 rfl [Value.int .i64 lid, .int .i64 asid, .int .u64 (vp : Nat), .int .u64 (ip : Nat), .int .i64 fr, .bool p0, .bool p1, .bool p2, .bool s0, .bool s1, .bool s2] _ HL9.out Try.underlying64 rfl (by kernel_rfl) ?_)
    exact ⟨rfl, rfl, HD.out⟩
  · rfl
  (try simp only [Act.put, List.setIfInBounds_toArray, List.set_cons_succ, List.set_cons_zero])
  apply walkedS_cons
  · intro l9 wS hz hn hS
    have HD := Lib.hid (pairS_other 6 (by decide) (by decide) hS)
    obtain ⟨k9, -, -⟩ := of_block hS.2.2.2
    clear hS hz hn
    go_wp2
    exact ⟨rfl, rfl, HD.out⟩
  · rfl
  (try simp only [Act.put, List.setIfInBounds_toArray, List.set_cons_succ, List.set_cons_zero])
  apply walkedS_cons
  · intro l9 wS hz hn hS
    obtain ⟨hA9, hB, hC⟩ := hS
    rw [hn] at hB
    have hc := HP.out.b wS hB
    have HQ := Lib.hid (And.intro hz (And.intro hA9 hC))
    clear hA9 hB hC hz hn
    go_wp2_with fail
    (with_reducible refine hc.mono ?_)
    rintro e y9 ⟨rfl, hI, hO⟩
    have HD : Hid (PairS 3 7 (TA p gs bs n wy T) (TA p gs bs n wy T') (RA q L n wy N T.flatten) (RA q L n wy N T'.flatten) (LoseC W bs L lb #[Value.int .i64 lid, .int .i64 asid, .int .u64 (vp : Nat), .int .u64 (ip : Nat), .int .i64 fr, .bool p0, .bool p1, .bool p2, .bool s0, .bool s1, .bool s2]) (l9.setIfInBounds 7 true) y9) := Lib.hid (pairS_second HQ.out.1 (by decide) (by decide) (both_tlb HQ.out.2.1 hO HSEP.out.1) hI (loseC_b HQ.out.2.2 hO HSEP.out.2.2))
    clear hI hO hc
    go_wp2
    exact ⟨rfl, rfl, HD.out⟩
  · rfl
  (try simp only [Act.put, List.setIfInBounds_toArray, List.set_cons_succ, List.set_cons_zero])
  apply walkedS_cons
  · intro l9 wS hz hn hS
    have HD := Lib.hid (pairS_other 8 (by decide) (by decide) hS)
    obtain ⟨k9, -, -⟩ := of_block hS.2.2.2
    clear hS hz hn
    go_wp2
    exact ⟨rfl, rfl, HD.out⟩
  · rfl
  (try simp only [Act.put, List.setIfInBounds_toArray, List.set_cons_succ, List.set_cons_zero])
  apply walkedS_cons
  · intro l9 wS hz hn hS
    have HD := Lib.hid (pairS_other 9 (by decide) (by decide) hS)
    obtain ⟨k9, -, -⟩ := of_block hS.2.2.2
    clear hS hz hn
    go_wp2
    exact ⟨rfl, rfl, HD.out⟩
  · rfl
  (try simp only [Act.put, List.setIfInBounds_toArray, List.set_cons_succ, List.set_cons_zero])
  apply walkedS_nil
  intro l9 y hz hall hS
  obtain ⟨hA, hB, hC⟩ := hS
  rw [hall 3 (by decide)] at hA
  rw [hall 7 (by decide)] at hB
  have HE : Hid (RetL w p gs bs n wy q L N T' ct (.returned (.tuple #[.int .i64 (ct : Nat), .int .i64 (ct : Nat)])) y) := Lib.hid ⟨rfl, hA, hB, ((Only.of_below HO.out).mono fun _ _ f => f.elim).trans hC.1⟩
  clear hA hB hC hall hz l9
  show wpList _ _ _ [] _ _
  go_wp2
  go_ret2
  exact HE.out
set_option maxHeartbeats 8000000 in
set_option maxRecDepth 100000 in
theorem loseASID_both {lid asid : Int} {vp ip : Nat} {fr : Int} {p0 p1 p2 s0 s1 s2 : Bool} {ct : Nat} (h : IsTlb w p gs bs n wy T) (hr : IsRT w q L n wy N T.flatten) (hs : Sep p gs bs q L)
    (hP : PairC p gs bs n wy q L N T T' 40 #[.pointer (some ⟨p, 0, none⟩), .int .i64 lid, .int .i64 asid] 79 #[.pointer (some ⟨q, 0, none⟩), .agg #[.bool true, .bool true, .bool false, .bool false, .bool false, .int .i64 lid, .int .i64 asid, .int .u64 (vp : Nat), .int .u64 (ip : Nat), .int .i64 fr, .bool p0, .bool p1, .bool p2, .bool s0, .bool s1, .bool s2]] (.int .i64 (ct : Nat))) :
    Calls Try.prog 44 #[.pointer (some ⟨p, 0, none⟩), .pointer (some ⟨q, 0, none⟩), .int .i64 8, .agg #[Value.int .i64 lid, .int .i64 asid, .int .u64 (vp : Nat), .int .u64 (ip : Nat), .int .i64 fr, .bool p0, .bool p1, .bool p2, .bool s0, .bool s1, .bool s2]] w (RetL w p gs bs n wy q L N T' ct) := by
  have H := Lib.hid (And.intro h hr)
  have HP := Lib.hid hP
  have HB := Lib.hid (And.intro (tlb_lt h).2.2 (lt_of_block hr.hL))
  have HS0 := Lib.hid hs
  clear h hr hP hs
  go_enter Try.func44, Try.ntmps44
  go_upto_region 7 with (fail)
  have hlb := new_block w (.cells #[Value.int .i64 lid, .int .i64 asid, .int .u64 (vp : Nat), .int .u64 (ip : Nat), .int .i64 fr, .bool p0, .bool p1, .bool p2, .bool s0, .bool s1, .bool s2] 64)
  have hO := old_alloc (old_refl w) (.cells #[Value.int .i64 lid, .int .i64 asid, .int .u64 (vp : Nat), .int .u64 (ip : Nat), .int .i64 fr, .bool p0, .bool p1, .bool p2, .bool s0, .bool s1, .bool s2] 64)
  generalize w.alloc (.cells #[Value.int .i64 lid, .int .i64 asid, .int .u64 (vp : Nat), .int .u64 (ip : Nat), .int .i64 fr, .bool p0, .bool p1, .bool p2, .bool s0, .bool s1, .bool s2] 64) = W at *
  obtain ⟨lb, hlbe⟩ : ∃ lb, lb = w.heap.size := ⟨_, rfl⟩
  rw [← hlbe] at hlb ⊢
  have HSEP : Hid (Sep p gs bs q L ∧ ¬ lb ∈ bs ∧ ¬ lb = L) := Lib.hid ⟨HS0.out, fun e => (by have := HB.out.1 _ e; omega), fun e => (by have := HB.out.2; omega)⟩
  have h0 : PairS 5 9 (TA p gs bs n wy T) (TA p gs bs n wy T') (RA q L n wy N T.flatten) (RA q L n wy N T'.flatten) (LoseC W bs L lb #[Value.int .i64 lid, .int .i64 asid, .int .u64 (vp : Nat), .int .u64 (ip : Nat), .int .i64 fr, .bool p0, .bool p1, .bool p2, .bool s0, .bool s1, .bool s2]) (Array.replicate 12 false) W.drew :=
    pairS_start (tlb_old H.out.1 (old_drew hO)) (rt_old H.out.2 (old_drew hO)) ⟨(Only.refl _ W).drew, hlb⟩
  have HO := Lib.hid hO
  clear hlb hO hlbe
  refine wp_region_staged (S := PairS 5 9 (TA p gs bs n wy T) (TA p gs bs n wy T') (RA q L n wy N T.flatten) (RA q L n wy N T'.flatten) (LoseC W bs L lb #[Value.int .i64 lid, .int .i64 asid, .int .u64 (vp : Nat), .int .u64 (ip : Nat), .int .i64 fr, .bool p0, .bool p1, .bool p2, .bool s0, .bool s1, .bool s2])) 12 (by kernel_rfl) (by kernel_rfl) (by kernel_rfl) (by decide) h0 ?_
  clear h0
  apply walkedS_cons
  · intro l9 wS hz hn hS
    have HD := Lib.hid (pairS_other 0 (by decide) (by decide) hS)
    obtain ⟨k9, -, -⟩ := of_block hS.2.2.2
    clear hS hz hn
    go_wp2
    exact ⟨rfl, rfl, HD.out⟩
  · rfl
  (try simp only [Act.put, List.setIfInBounds_toArray, List.set_cons_succ, List.set_cons_zero])
  apply walkedS_cons
  · intro l9 wS hz hn hS
    have HD := Lib.hid (pairS_other 1 (by decide) (by decide) hS)
    obtain ⟨k9, -, -⟩ := of_block hS.2.2.2
    clear hS hz hn
    go_wp2
    exact ⟨rfl, rfl, HD.out⟩
  · rfl
  (try simp only [Act.put, List.setIfInBounds_toArray, List.set_cons_succ, List.set_cons_zero])
  apply walkedS_cons
  · intro l9 wS hz hn hS
    have HD := Lib.hid (pairS_other 2 (by decide) (by decide) hS)
    obtain ⟨k9, -, -⟩ := of_block hS.2.2.2
    clear hS hz hn
    go_wp2
    exact ⟨rfl, rfl, HD.out⟩
  · rfl
  (try simp only [Act.put, List.setIfInBounds_toArray, List.set_cons_succ, List.set_cons_zero])
  apply walkedS_cons
  · intro l9 wS hz hn hS
    have HD := Lib.hid (pairS_other 3 (by decide) (by decide) hS)
    obtain ⟨k9, -, -⟩ := of_block hS.2.2.2
    clear hS hz hn
    go_wp2
    exact ⟨rfl, rfl, HD.out⟩
  · rfl
  (try simp only [Act.put, List.setIfInBounds_toArray, List.set_cons_succ, List.set_cons_zero])
  apply walkedS_cons
  · intro l9 wS hz hn hS
    have HD := Lib.hid (pairS_other 4 (by decide) (by decide) hS)
    obtain ⟨k9, -, -⟩ := of_block hS.2.2.2
    clear hS hz hn
    go_wp2
    exact ⟨rfl, rfl, HD.out⟩
  · rfl
  (try simp only [Act.put, List.setIfInBounds_toArray, List.set_cons_succ, List.set_cons_zero])
  apply walkedS_cons
  · intro l9 wS hz hn hS
    obtain ⟨hA, hB9, hC⟩ := hS
    rw [hn] at hA
    have hc := HP.out.a wS hA
    have HQ := Lib.hid (And.intro hz (And.intro hB9 hC))
    clear hA hB9 hC hz hn
    go_wp2_with fail
    (with_reducible refine hc.mono ?_)
    rintro e y9 ⟨rfl, hI, hO⟩
    have HD : Hid (PairS 5 9 (TA p gs bs n wy T) (TA p gs bs n wy T') (RA q L n wy N T.flatten) (RA q L n wy N T'.flatten) (LoseC W bs L lb #[Value.int .i64 lid, .int .i64 asid, .int .u64 (vp : Nat), .int .u64 (ip : Nat), .int .i64 fr, .bool p0, .bool p1, .bool p2, .bool s0, .bool s1, .bool s2]) (l9.setIfInBounds 5 true) y9) := Lib.hid (pairS_first HQ.out.1 (by decide) (by decide) hI (both_rt HQ.out.2.1 hO HSEP.out.1) (loseC_a HQ.out.2.2 hO HSEP.out.2.1))
    clear hI hO hc
    go_wp2
    exact ⟨rfl, rfl, HD.out⟩
  · rfl
  (try simp only [Act.put, List.setIfInBounds_toArray, List.set_cons_succ, List.set_cons_zero])
  apply walkedS_cons
  · intro l9 wS hz hn hS
    have HD := Lib.hid (pairS_other 6 (by decide) (by decide) hS)
    obtain ⟨k9, -, -⟩ := of_block hS.2.2.2
    clear hS hz hn
    go_wp2
    exact ⟨rfl, rfl, HD.out⟩
  · rfl
  (try simp only [Act.put, List.setIfInBounds_toArray, List.set_cons_succ, List.set_cons_zero])
  apply walkedS_cons
  · intro l9 wS hz hn hS
    have HD := Lib.hid (pairS_other 7 (by decide) (by decide) hS)
    have HL9 : Hid (∀ (c : Nat) (v : Value), [Value.int .i64 lid, .int .i64 asid, .int .u64 (vp : Nat), .int .u64 (ip : Nat), .int .i64 fr, .bool p0, .bool p1, .bool p2, .bool s0, .bool s1, .bool s2][c]? = some v → wS.cell? ⟨lb, 0 + c, none⟩ = some v) := Lib.hid (fun c v hv => by rw [Nat.zero_add, cell_of hS.2.2.2]; simpa using hv)
    clear hS hz hn
    go_wp2_with (refine wpList_load_at rfl 64 _ rfl lb 0 rfl [Value.int .i64 lid, .int .i64 asid, .int .u64 (vp : Nat), .int .u64 (ip : Nat), .int .i64 fr, .bool p0, .bool p1, .bool p2, .bool s0, .bool s1, .bool s2] _ HL9.out Try.underlying64 rfl (by kernel_rfl) ?_)
    exact ⟨rfl, rfl, HD.out⟩
  · rfl
  (try simp only [Act.put, List.setIfInBounds_toArray, List.set_cons_succ, List.set_cons_zero])
  apply walkedS_cons
  · intro l9 wS hz hn hS
    have HD := Lib.hid (pairS_other 8 (by decide) (by decide) hS)
    obtain ⟨k9, -, -⟩ := of_block hS.2.2.2
    clear hS hz hn
    go_wp2
    exact ⟨rfl, rfl, HD.out⟩
  · rfl
  (try simp only [Act.put, List.setIfInBounds_toArray, List.set_cons_succ, List.set_cons_zero])
  apply walkedS_cons
  · intro l9 wS hz hn hS
    obtain ⟨hA9, hB, hC⟩ := hS
    rw [hn] at hB
    have hc := HP.out.b wS hB
    have HQ := Lib.hid (And.intro hz (And.intro hA9 hC))
    clear hA9 hB hC hz hn
    go_wp2_with fail
    (with_reducible refine hc.mono ?_)
    rintro e y9 ⟨rfl, hI, hO⟩
    have HD : Hid (PairS 5 9 (TA p gs bs n wy T) (TA p gs bs n wy T') (RA q L n wy N T.flatten) (RA q L n wy N T'.flatten) (LoseC W bs L lb #[Value.int .i64 lid, .int .i64 asid, .int .u64 (vp : Nat), .int .u64 (ip : Nat), .int .i64 fr, .bool p0, .bool p1, .bool p2, .bool s0, .bool s1, .bool s2]) (l9.setIfInBounds 9 true) y9) := Lib.hid (pairS_second HQ.out.1 (by decide) (by decide) (both_tlb HQ.out.2.1 hO HSEP.out.1) hI (loseC_b HQ.out.2.2 hO HSEP.out.2.2))
    clear hI hO hc
    go_wp2
    exact ⟨rfl, rfl, HD.out⟩
  · rfl
  (try simp only [Act.put, List.setIfInBounds_toArray, List.set_cons_succ, List.set_cons_zero])
  apply walkedS_cons
  · intro l9 wS hz hn hS
    have HD := Lib.hid (pairS_other 10 (by decide) (by decide) hS)
    obtain ⟨k9, -, -⟩ := of_block hS.2.2.2
    clear hS hz hn
    go_wp2
    exact ⟨rfl, rfl, HD.out⟩
  · rfl
  (try simp only [Act.put, List.setIfInBounds_toArray, List.set_cons_succ, List.set_cons_zero])
  apply walkedS_cons
  · intro l9 wS hz hn hS
    have HD := Lib.hid (pairS_other 11 (by decide) (by decide) hS)
    obtain ⟨k9, -, -⟩ := of_block hS.2.2.2
    clear hS hz hn
    go_wp2
    exact ⟨rfl, rfl, HD.out⟩
  · rfl
  (try simp only [Act.put, List.setIfInBounds_toArray, List.set_cons_succ, List.set_cons_zero])
  apply walkedS_nil
  intro l9 y hz hall hS
  obtain ⟨hA, hB, hC⟩ := hS
  rw [hall 5 (by decide)] at hA
  rw [hall 9 (by decide)] at hB
  have HE : Hid (RetL w p gs bs n wy q L N T' ct (.returned (.tuple #[.int .i64 (ct : Nat), .int .i64 (ct : Nat)])) y) := Lib.hid ⟨rfl, hA, hB, ((Only.of_below HO.out).mono fun _ _ f => f.elim).trans hC.1⟩
  clear hA hB hC hall hz l9
  show wpList _ _ _ [] _ _
  go_wp2
  go_ret2
  exact HE.out
set_option maxHeartbeats 8000000 in
set_option maxRecDepth 100000 in
theorem loseVA_both {lid asid : Int} {vp ip : Nat} {fr : Int} {p0 p1 p2 s0 s1 s2 : Bool} {ct : Nat} (h : IsTlb w p gs bs n wy T) (hr : IsRT w q L n wy N T.flatten) (hs : Sep p gs bs q L)
    (hP : PairC p gs bs n wy q L N T T' 80 #[.pointer (some ⟨p, 0, none⟩), .int .i64 lid, .int .i64 asid, .int .u64 (vp : Nat)] 79 #[.pointer (some ⟨q, 0, none⟩), .agg #[.bool true, .bool true, .bool true, .bool false, .bool false, .int .i64 lid, .int .i64 asid, .int .u64 (vp : Nat), .int .u64 (ip : Nat), .int .i64 fr, .bool p0, .bool p1, .bool p2, .bool s0, .bool s1, .bool s2]] (.int .i64 (ct : Nat))) :
    Calls Try.prog 44 #[.pointer (some ⟨p, 0, none⟩), .pointer (some ⟨q, 0, none⟩), .int .i64 9, .agg #[Value.int .i64 lid, .int .i64 asid, .int .u64 (vp : Nat), .int .u64 (ip : Nat), .int .i64 fr, .bool p0, .bool p1, .bool p2, .bool s0, .bool s1, .bool s2]] w (RetL w p gs bs n wy q L N T' ct) := by
  have H := Lib.hid (And.intro h hr)
  have HP := Lib.hid hP
  have HB := Lib.hid (And.intro (tlb_lt h).2.2 (lt_of_block hr.hL))
  have HS0 := Lib.hid hs
  clear h hr hP hs
  go_enter Try.func44, Try.ntmps44
  go_upto_region 9 with (fail)
  have hlb := new_block w (.cells #[Value.int .i64 lid, .int .i64 asid, .int .u64 (vp : Nat), .int .u64 (ip : Nat), .int .i64 fr, .bool p0, .bool p1, .bool p2, .bool s0, .bool s1, .bool s2] 64)
  have hO := old_alloc (old_refl w) (.cells #[Value.int .i64 lid, .int .i64 asid, .int .u64 (vp : Nat), .int .u64 (ip : Nat), .int .i64 fr, .bool p0, .bool p1, .bool p2, .bool s0, .bool s1, .bool s2] 64)
  generalize w.alloc (.cells #[Value.int .i64 lid, .int .i64 asid, .int .u64 (vp : Nat), .int .u64 (ip : Nat), .int .i64 fr, .bool p0, .bool p1, .bool p2, .bool s0, .bool s1, .bool s2] 64) = W at *
  obtain ⟨lb, hlbe⟩ : ∃ lb, lb = w.heap.size := ⟨_, rfl⟩
  rw [← hlbe] at hlb ⊢
  have HSEP : Hid (Sep p gs bs q L ∧ ¬ lb ∈ bs ∧ ¬ lb = L) := Lib.hid ⟨HS0.out, fun e => (by have := HB.out.1 _ e; omega), fun e => (by have := HB.out.2; omega)⟩
  have h0 : PairS 7 11 (TA p gs bs n wy T) (TA p gs bs n wy T') (RA q L n wy N T.flatten) (RA q L n wy N T'.flatten) (LoseC W bs L lb #[Value.int .i64 lid, .int .i64 asid, .int .u64 (vp : Nat), .int .u64 (ip : Nat), .int .i64 fr, .bool p0, .bool p1, .bool p2, .bool s0, .bool s1, .bool s2]) (Array.replicate 14 false) W.drew :=
    pairS_start (tlb_old H.out.1 (old_drew hO)) (rt_old H.out.2 (old_drew hO)) ⟨(Only.refl _ W).drew, hlb⟩
  have HO := Lib.hid hO
  clear hlb hO hlbe
  refine wp_region_staged (S := PairS 7 11 (TA p gs bs n wy T) (TA p gs bs n wy T') (RA q L n wy N T.flatten) (RA q L n wy N T'.flatten) (LoseC W bs L lb #[Value.int .i64 lid, .int .i64 asid, .int .u64 (vp : Nat), .int .u64 (ip : Nat), .int .i64 fr, .bool p0, .bool p1, .bool p2, .bool s0, .bool s1, .bool s2])) 14 (by kernel_rfl) (by kernel_rfl) (by kernel_rfl) (by decide) h0 ?_
  clear h0
  apply walkedS_cons
  · intro l9 wS hz hn hS
    have HD := Lib.hid (pairS_other 0 (by decide) (by decide) hS)
    obtain ⟨k9, -, -⟩ := of_block hS.2.2.2
    clear hS hz hn
    go_wp2
    exact ⟨rfl, rfl, HD.out⟩
  · rfl
  (try simp only [Act.put, List.setIfInBounds_toArray, List.set_cons_succ, List.set_cons_zero])
  apply walkedS_cons
  · intro l9 wS hz hn hS
    have HD := Lib.hid (pairS_other 1 (by decide) (by decide) hS)
    obtain ⟨k9, -, -⟩ := of_block hS.2.2.2
    clear hS hz hn
    go_wp2
    exact ⟨rfl, rfl, HD.out⟩
  · rfl
  (try simp only [Act.put, List.setIfInBounds_toArray, List.set_cons_succ, List.set_cons_zero])
  apply walkedS_cons
  · intro l9 wS hz hn hS
    have HD := Lib.hid (pairS_other 2 (by decide) (by decide) hS)
    obtain ⟨k9, -, -⟩ := of_block hS.2.2.2
    clear hS hz hn
    go_wp2
    exact ⟨rfl, rfl, HD.out⟩
  · rfl
  (try simp only [Act.put, List.setIfInBounds_toArray, List.set_cons_succ, List.set_cons_zero])
  apply walkedS_cons
  · intro l9 wS hz hn hS
    have HD := Lib.hid (pairS_other 3 (by decide) (by decide) hS)
    obtain ⟨k9, -, -⟩ := of_block hS.2.2.2
    clear hS hz hn
    go_wp2
    exact ⟨rfl, rfl, HD.out⟩
  · rfl
  (try simp only [Act.put, List.setIfInBounds_toArray, List.set_cons_succ, List.set_cons_zero])
  apply walkedS_cons
  · intro l9 wS hz hn hS
    have HD := Lib.hid (pairS_other 4 (by decide) (by decide) hS)
    obtain ⟨k9, -, -⟩ := of_block hS.2.2.2
    clear hS hz hn
    go_wp2
    exact ⟨rfl, rfl, HD.out⟩
  · rfl
  (try simp only [Act.put, List.setIfInBounds_toArray, List.set_cons_succ, List.set_cons_zero])
  apply walkedS_cons
  · intro l9 wS hz hn hS
    have HD := Lib.hid (pairS_other 5 (by decide) (by decide) hS)
    obtain ⟨k9, -, -⟩ := of_block hS.2.2.2
    clear hS hz hn
    go_wp2
    exact ⟨rfl, rfl, HD.out⟩
  · rfl
  (try simp only [Act.put, List.setIfInBounds_toArray, List.set_cons_succ, List.set_cons_zero])
  apply walkedS_cons
  · intro l9 wS hz hn hS
    have HD := Lib.hid (pairS_other 6 (by decide) (by decide) hS)
    obtain ⟨k9, -, -⟩ := of_block hS.2.2.2
    clear hS hz hn
    go_wp2
    exact ⟨rfl, rfl, HD.out⟩
  · rfl
  (try simp only [Act.put, List.setIfInBounds_toArray, List.set_cons_succ, List.set_cons_zero])
  apply walkedS_cons
  · intro l9 wS hz hn hS
    obtain ⟨hA, hB9, hC⟩ := hS
    rw [hn] at hA
    have hc := HP.out.a wS hA
    have HQ := Lib.hid (And.intro hz (And.intro hB9 hC))
    clear hA hB9 hC hz hn
    go_wp2_with fail
    (with_reducible refine hc.mono ?_)
    rintro e y9 ⟨rfl, hI, hO⟩
    have HD : Hid (PairS 7 11 (TA p gs bs n wy T) (TA p gs bs n wy T') (RA q L n wy N T.flatten) (RA q L n wy N T'.flatten) (LoseC W bs L lb #[Value.int .i64 lid, .int .i64 asid, .int .u64 (vp : Nat), .int .u64 (ip : Nat), .int .i64 fr, .bool p0, .bool p1, .bool p2, .bool s0, .bool s1, .bool s2]) (l9.setIfInBounds 7 true) y9) := Lib.hid (pairS_first HQ.out.1 (by decide) (by decide) hI (both_rt HQ.out.2.1 hO HSEP.out.1) (loseC_a HQ.out.2.2 hO HSEP.out.2.1))
    clear hI hO hc
    go_wp2
    exact ⟨rfl, rfl, HD.out⟩
  · rfl
  (try simp only [Act.put, List.setIfInBounds_toArray, List.set_cons_succ, List.set_cons_zero])
  apply walkedS_cons
  · intro l9 wS hz hn hS
    have HD := Lib.hid (pairS_other 8 (by decide) (by decide) hS)
    obtain ⟨k9, -, -⟩ := of_block hS.2.2.2
    clear hS hz hn
    go_wp2
    exact ⟨rfl, rfl, HD.out⟩
  · rfl
  (try simp only [Act.put, List.setIfInBounds_toArray, List.set_cons_succ, List.set_cons_zero])
  apply walkedS_cons
  · intro l9 wS hz hn hS
    have HD := Lib.hid (pairS_other 9 (by decide) (by decide) hS)
    have HL9 : Hid (∀ (c : Nat) (v : Value), [Value.int .i64 lid, .int .i64 asid, .int .u64 (vp : Nat), .int .u64 (ip : Nat), .int .i64 fr, .bool p0, .bool p1, .bool p2, .bool s0, .bool s1, .bool s2][c]? = some v → wS.cell? ⟨lb, 0 + c, none⟩ = some v) := Lib.hid (fun c v hv => by rw [Nat.zero_add, cell_of hS.2.2.2]; simpa using hv)
    clear hS hz hn
    go_wp2_with (refine wpList_load_at rfl 64 _ rfl lb 0 rfl [Value.int .i64 lid, .int .i64 asid, .int .u64 (vp : Nat), .int .u64 (ip : Nat), .int .i64 fr, .bool p0, .bool p1, .bool p2, .bool s0, .bool s1, .bool s2] _ HL9.out Try.underlying64 rfl (by kernel_rfl) ?_)
    exact ⟨rfl, rfl, HD.out⟩
  · rfl
  (try simp only [Act.put, List.setIfInBounds_toArray, List.set_cons_succ, List.set_cons_zero])
  apply walkedS_cons
  · intro l9 wS hz hn hS
    have HD := Lib.hid (pairS_other 10 (by decide) (by decide) hS)
    obtain ⟨k9, -, -⟩ := of_block hS.2.2.2
    clear hS hz hn
    go_wp2
    exact ⟨rfl, rfl, HD.out⟩
  · rfl
  (try simp only [Act.put, List.setIfInBounds_toArray, List.set_cons_succ, List.set_cons_zero])
  apply walkedS_cons
  · intro l9 wS hz hn hS
    obtain ⟨hA9, hB, hC⟩ := hS
    rw [hn] at hB
    have hc := HP.out.b wS hB
    have HQ := Lib.hid (And.intro hz (And.intro hA9 hC))
    clear hA9 hB hC hz hn
    go_wp2_with fail
    (with_reducible refine hc.mono ?_)
    rintro e y9 ⟨rfl, hI, hO⟩
    have HD : Hid (PairS 7 11 (TA p gs bs n wy T) (TA p gs bs n wy T') (RA q L n wy N T.flatten) (RA q L n wy N T'.flatten) (LoseC W bs L lb #[Value.int .i64 lid, .int .i64 asid, .int .u64 (vp : Nat), .int .u64 (ip : Nat), .int .i64 fr, .bool p0, .bool p1, .bool p2, .bool s0, .bool s1, .bool s2]) (l9.setIfInBounds 11 true) y9) := Lib.hid (pairS_second HQ.out.1 (by decide) (by decide) (both_tlb HQ.out.2.1 hO HSEP.out.1) hI (loseC_b HQ.out.2.2 hO HSEP.out.2.2))
    clear hI hO hc
    go_wp2
    exact ⟨rfl, rfl, HD.out⟩
  · rfl
  (try simp only [Act.put, List.setIfInBounds_toArray, List.set_cons_succ, List.set_cons_zero])
  apply walkedS_cons
  · intro l9 wS hz hn hS
    have HD := Lib.hid (pairS_other 12 (by decide) (by decide) hS)
    obtain ⟨k9, -, -⟩ := of_block hS.2.2.2
    clear hS hz hn
    go_wp2
    exact ⟨rfl, rfl, HD.out⟩
  · rfl
  (try simp only [Act.put, List.setIfInBounds_toArray, List.set_cons_succ, List.set_cons_zero])
  apply walkedS_cons
  · intro l9 wS hz hn hS
    have HD := Lib.hid (pairS_other 13 (by decide) (by decide) hS)
    obtain ⟨k9, -, -⟩ := of_block hS.2.2.2
    clear hS hz hn
    go_wp2
    exact ⟨rfl, rfl, HD.out⟩
  · rfl
  (try simp only [Act.put, List.setIfInBounds_toArray, List.set_cons_succ, List.set_cons_zero])
  apply walkedS_nil
  intro l9 y hz hall hS
  obtain ⟨hA, hB, hC⟩ := hS
  rw [hall 7 (by decide)] at hA
  rw [hall 11 (by decide)] at hB
  have HE : Hid (RetL w p gs bs n wy q L N T' ct (.returned (.tuple #[.int .i64 (ct : Nat), .int .i64 (ct : Nat)])) y) := Lib.hid ⟨rfl, hA, hB, ((Only.of_below HO.out).mono fun _ _ f => f.elim).trans hC.1⟩
  clear hA hB hC hall hz l9
  show wpList _ _ _ [] _ _
  go_wp2
  go_ret2
  exact HE.out
set_option maxHeartbeats 8000000 in
set_option maxRecDepth 100000 in
theorem losePage_both {lid asid : Int} {vp ip : Nat} {fr : Int} {p0 p1 p2 s0 s1 s2 : Bool} {ct : Nat} (h : IsTlb w p gs bs n wy T) (hr : IsRT w q L n wy N T.flatten) (hs : Sep p gs bs q L)
    (hP : PairC p gs bs n wy q L N T T' 36 #[.pointer (some ⟨p, 0, none⟩), .int .i64 lid, .int .u64 (ip : Nat)] 79 #[.pointer (some ⟨q, 0, none⟩), .agg #[.bool true, .bool false, .bool false, .bool true, .bool false, .int .i64 lid, .int .i64 asid, .int .u64 (vp : Nat), .int .u64 (ip : Nat), .int .i64 fr, .bool p0, .bool p1, .bool p2, .bool s0, .bool s1, .bool s2]] (.int .i64 (ct : Nat))) :
    Calls Try.prog 44 #[.pointer (some ⟨p, 0, none⟩), .pointer (some ⟨q, 0, none⟩), .int .i64 10, .agg #[Value.int .i64 lid, .int .i64 asid, .int .u64 (vp : Nat), .int .u64 (ip : Nat), .int .i64 fr, .bool p0, .bool p1, .bool p2, .bool s0, .bool s1, .bool s2]] w (RetL w p gs bs n wy q L N T' ct) := by
  have H := Lib.hid (And.intro h hr)
  have HP := Lib.hid hP
  have HB := Lib.hid (And.intro (tlb_lt h).2.2 (lt_of_block hr.hL))
  have HS0 := Lib.hid hs
  clear h hr hP hs
  go_enter Try.func44, Try.ntmps44
  go_upto_region 11 with (fail)
  have hlb := new_block w (.cells #[Value.int .i64 lid, .int .i64 asid, .int .u64 (vp : Nat), .int .u64 (ip : Nat), .int .i64 fr, .bool p0, .bool p1, .bool p2, .bool s0, .bool s1, .bool s2] 64)
  have hO := old_alloc (old_refl w) (.cells #[Value.int .i64 lid, .int .i64 asid, .int .u64 (vp : Nat), .int .u64 (ip : Nat), .int .i64 fr, .bool p0, .bool p1, .bool p2, .bool s0, .bool s1, .bool s2] 64)
  generalize w.alloc (.cells #[Value.int .i64 lid, .int .i64 asid, .int .u64 (vp : Nat), .int .u64 (ip : Nat), .int .i64 fr, .bool p0, .bool p1, .bool p2, .bool s0, .bool s1, .bool s2] 64) = W at *
  obtain ⟨lb, hlbe⟩ : ∃ lb, lb = w.heap.size := ⟨_, rfl⟩
  rw [← hlbe] at hlb ⊢
  have HSEP : Hid (Sep p gs bs q L ∧ ¬ lb ∈ bs ∧ ¬ lb = L) := Lib.hid ⟨HS0.out, fun e => (by have := HB.out.1 _ e; omega), fun e => (by have := HB.out.2; omega)⟩
  have h0 : PairS 5 9 (TA p gs bs n wy T) (TA p gs bs n wy T') (RA q L n wy N T.flatten) (RA q L n wy N T'.flatten) (LoseC W bs L lb #[Value.int .i64 lid, .int .i64 asid, .int .u64 (vp : Nat), .int .u64 (ip : Nat), .int .i64 fr, .bool p0, .bool p1, .bool p2, .bool s0, .bool s1, .bool s2]) (Array.replicate 12 false) W.drew :=
    pairS_start (tlb_old H.out.1 (old_drew hO)) (rt_old H.out.2 (old_drew hO)) ⟨(Only.refl _ W).drew, hlb⟩
  have HO := Lib.hid hO
  clear hlb hO hlbe
  refine wp_region_staged (S := PairS 5 9 (TA p gs bs n wy T) (TA p gs bs n wy T') (RA q L n wy N T.flatten) (RA q L n wy N T'.flatten) (LoseC W bs L lb #[Value.int .i64 lid, .int .i64 asid, .int .u64 (vp : Nat), .int .u64 (ip : Nat), .int .i64 fr, .bool p0, .bool p1, .bool p2, .bool s0, .bool s1, .bool s2])) 12 (by kernel_rfl) (by kernel_rfl) (by kernel_rfl) (by decide) h0 ?_
  clear h0
  apply walkedS_cons
  · intro l9 wS hz hn hS
    have HD := Lib.hid (pairS_other 0 (by decide) (by decide) hS)
    obtain ⟨k9, -, -⟩ := of_block hS.2.2.2
    clear hS hz hn
    go_wp2
    exact ⟨rfl, rfl, HD.out⟩
  · rfl
  (try simp only [Act.put, List.setIfInBounds_toArray, List.set_cons_succ, List.set_cons_zero])
  apply walkedS_cons
  · intro l9 wS hz hn hS
    have HD := Lib.hid (pairS_other 1 (by decide) (by decide) hS)
    obtain ⟨k9, -, -⟩ := of_block hS.2.2.2
    clear hS hz hn
    go_wp2
    exact ⟨rfl, rfl, HD.out⟩
  · rfl
  (try simp only [Act.put, List.setIfInBounds_toArray, List.set_cons_succ, List.set_cons_zero])
  apply walkedS_cons
  · intro l9 wS hz hn hS
    have HD := Lib.hid (pairS_other 2 (by decide) (by decide) hS)
    obtain ⟨k9, -, -⟩ := of_block hS.2.2.2
    clear hS hz hn
    go_wp2
    exact ⟨rfl, rfl, HD.out⟩
  · rfl
  (try simp only [Act.put, List.setIfInBounds_toArray, List.set_cons_succ, List.set_cons_zero])
  apply walkedS_cons
  · intro l9 wS hz hn hS
    have HD := Lib.hid (pairS_other 3 (by decide) (by decide) hS)
    obtain ⟨k9, -, -⟩ := of_block hS.2.2.2
    clear hS hz hn
    go_wp2
    exact ⟨rfl, rfl, HD.out⟩
  · rfl
  (try simp only [Act.put, List.setIfInBounds_toArray, List.set_cons_succ, List.set_cons_zero])
  apply walkedS_cons
  · intro l9 wS hz hn hS
    have HD := Lib.hid (pairS_other 4 (by decide) (by decide) hS)
    obtain ⟨k9, -, -⟩ := of_block hS.2.2.2
    clear hS hz hn
    go_wp2
    exact ⟨rfl, rfl, HD.out⟩
  · rfl
  (try simp only [Act.put, List.setIfInBounds_toArray, List.set_cons_succ, List.set_cons_zero])
  apply walkedS_cons
  · intro l9 wS hz hn hS
    obtain ⟨hA, hB9, hC⟩ := hS
    rw [hn] at hA
    have hc := HP.out.a wS hA
    have HQ := Lib.hid (And.intro hz (And.intro hB9 hC))
    clear hA hB9 hC hz hn
    go_wp2_with fail
    (with_reducible refine hc.mono ?_)
    rintro e y9 ⟨rfl, hI, hO⟩
    have HD : Hid (PairS 5 9 (TA p gs bs n wy T) (TA p gs bs n wy T') (RA q L n wy N T.flatten) (RA q L n wy N T'.flatten) (LoseC W bs L lb #[Value.int .i64 lid, .int .i64 asid, .int .u64 (vp : Nat), .int .u64 (ip : Nat), .int .i64 fr, .bool p0, .bool p1, .bool p2, .bool s0, .bool s1, .bool s2]) (l9.setIfInBounds 5 true) y9) := Lib.hid (pairS_first HQ.out.1 (by decide) (by decide) hI (both_rt HQ.out.2.1 hO HSEP.out.1) (loseC_a HQ.out.2.2 hO HSEP.out.2.1))
    clear hI hO hc
    go_wp2
    exact ⟨rfl, rfl, HD.out⟩
  · rfl
  (try simp only [Act.put, List.setIfInBounds_toArray, List.set_cons_succ, List.set_cons_zero])
  apply walkedS_cons
  · intro l9 wS hz hn hS
    have HD := Lib.hid (pairS_other 6 (by decide) (by decide) hS)
    obtain ⟨k9, -, -⟩ := of_block hS.2.2.2
    clear hS hz hn
    go_wp2
    exact ⟨rfl, rfl, HD.out⟩
  · rfl
  (try simp only [Act.put, List.setIfInBounds_toArray, List.set_cons_succ, List.set_cons_zero])
  apply walkedS_cons
  · intro l9 wS hz hn hS
    have HD := Lib.hid (pairS_other 7 (by decide) (by decide) hS)
    have HL9 : Hid (∀ (c : Nat) (v : Value), [Value.int .i64 lid, .int .i64 asid, .int .u64 (vp : Nat), .int .u64 (ip : Nat), .int .i64 fr, .bool p0, .bool p1, .bool p2, .bool s0, .bool s1, .bool s2][c]? = some v → wS.cell? ⟨lb, 0 + c, none⟩ = some v) := Lib.hid (fun c v hv => by rw [Nat.zero_add, cell_of hS.2.2.2]; simpa using hv)
    clear hS hz hn
    go_wp2_with (refine wpList_load_at rfl 64 _ rfl lb 0 rfl [Value.int .i64 lid, .int .i64 asid, .int .u64 (vp : Nat), .int .u64 (ip : Nat), .int .i64 fr, .bool p0, .bool p1, .bool p2, .bool s0, .bool s1, .bool s2] _ HL9.out Try.underlying64 rfl (by kernel_rfl) ?_)
    exact ⟨rfl, rfl, HD.out⟩
  · rfl
  (try simp only [Act.put, List.setIfInBounds_toArray, List.set_cons_succ, List.set_cons_zero])
  apply walkedS_cons
  · intro l9 wS hz hn hS
    have HD := Lib.hid (pairS_other 8 (by decide) (by decide) hS)
    obtain ⟨k9, -, -⟩ := of_block hS.2.2.2
    clear hS hz hn
    go_wp2
    exact ⟨rfl, rfl, HD.out⟩
  · rfl
  (try simp only [Act.put, List.setIfInBounds_toArray, List.set_cons_succ, List.set_cons_zero])
  apply walkedS_cons
  · intro l9 wS hz hn hS
    obtain ⟨hA9, hB, hC⟩ := hS
    rw [hn] at hB
    have hc := HP.out.b wS hB
    have HQ := Lib.hid (And.intro hz (And.intro hA9 hC))
    clear hA9 hB hC hz hn
    go_wp2_with fail
    (with_reducible refine hc.mono ?_)
    rintro e y9 ⟨rfl, hI, hO⟩
    have HD : Hid (PairS 5 9 (TA p gs bs n wy T) (TA p gs bs n wy T') (RA q L n wy N T.flatten) (RA q L n wy N T'.flatten) (LoseC W bs L lb #[Value.int .i64 lid, .int .i64 asid, .int .u64 (vp : Nat), .int .u64 (ip : Nat), .int .i64 fr, .bool p0, .bool p1, .bool p2, .bool s0, .bool s1, .bool s2]) (l9.setIfInBounds 9 true) y9) := Lib.hid (pairS_second HQ.out.1 (by decide) (by decide) (both_tlb HQ.out.2.1 hO HSEP.out.1) hI (loseC_b HQ.out.2.2 hO HSEP.out.2.2))
    clear hI hO hc
    go_wp2
    exact ⟨rfl, rfl, HD.out⟩
  · rfl
  (try simp only [Act.put, List.setIfInBounds_toArray, List.set_cons_succ, List.set_cons_zero])
  apply walkedS_cons
  · intro l9 wS hz hn hS
    have HD := Lib.hid (pairS_other 10 (by decide) (by decide) hS)
    obtain ⟨k9, -, -⟩ := of_block hS.2.2.2
    clear hS hz hn
    go_wp2
    exact ⟨rfl, rfl, HD.out⟩
  · rfl
  (try simp only [Act.put, List.setIfInBounds_toArray, List.set_cons_succ, List.set_cons_zero])
  apply walkedS_cons
  · intro l9 wS hz hn hS
    have HD := Lib.hid (pairS_other 11 (by decide) (by decide) hS)
    obtain ⟨k9, -, -⟩ := of_block hS.2.2.2
    clear hS hz hn
    go_wp2
    exact ⟨rfl, rfl, HD.out⟩
  · rfl
  (try simp only [Act.put, List.setIfInBounds_toArray, List.set_cons_succ, List.set_cons_zero])
  apply walkedS_nil
  intro l9 y hz hall hS
  obtain ⟨hA, hB, hC⟩ := hS
  rw [hall 5 (by decide)] at hA
  rw [hall 9 (by decide)] at hB
  have HE : Hid (RetL w p gs bs n wy q L N T' ct (.returned (.tuple #[.int .i64 (ct : Nat), .int .i64 (ct : Nat)])) y) := Lib.hid ⟨rfl, hA, hB, ((Only.of_below HO.out).mono fun _ _ f => f.elim).trans hC.1⟩
  clear hA hB hC hall hz l9
  show wpList _ _ _ [] _ _
  go_wp2
  go_ret2
  exact HE.out
set_option maxHeartbeats 8000000 in
set_option maxRecDepth 100000 in
theorem loseFrame_both {lid asid : Int} {vp ip : Nat} {fr : Int} {p0 p1 p2 s0 s1 s2 : Bool} {ct : Nat} (h : IsTlb w p gs bs n wy T) (hr : IsRT w q L n wy N T.flatten) (hs : Sep p gs bs q L)
    (hP : PairC p gs bs n wy q L N T T' 37 #[.pointer (some ⟨p, 0, none⟩), .int .i64 fr] 79 #[.pointer (some ⟨q, 0, none⟩), .agg #[.bool false, .bool false, .bool false, .bool false, .bool true, .int .i64 lid, .int .i64 asid, .int .u64 (vp : Nat), .int .u64 (ip : Nat), .int .i64 fr, .bool p0, .bool p1, .bool p2, .bool s0, .bool s1, .bool s2]] (.int .i64 (ct : Nat))) :
    Calls Try.prog 44 #[.pointer (some ⟨p, 0, none⟩), .pointer (some ⟨q, 0, none⟩), .int .i64 11, .agg #[Value.int .i64 lid, .int .i64 asid, .int .u64 (vp : Nat), .int .u64 (ip : Nat), .int .i64 fr, .bool p0, .bool p1, .bool p2, .bool s0, .bool s1, .bool s2]] w (RetL w p gs bs n wy q L N T' ct) := by
  have H := Lib.hid (And.intro h hr)
  have HP := Lib.hid hP
  have HB := Lib.hid (And.intro (tlb_lt h).2.2 (lt_of_block hr.hL))
  have HS0 := Lib.hid hs
  clear h hr hP hs
  go_enter Try.func44, Try.ntmps44
  go_upto_region 12 with (fail)
  have hlb := new_block w (.cells #[Value.int .i64 lid, .int .i64 asid, .int .u64 (vp : Nat), .int .u64 (ip : Nat), .int .i64 fr, .bool p0, .bool p1, .bool p2, .bool s0, .bool s1, .bool s2] 64)
  have hO := old_alloc (old_refl w) (.cells #[Value.int .i64 lid, .int .i64 asid, .int .u64 (vp : Nat), .int .u64 (ip : Nat), .int .i64 fr, .bool p0, .bool p1, .bool p2, .bool s0, .bool s1, .bool s2] 64)
  generalize w.alloc (.cells #[Value.int .i64 lid, .int .i64 asid, .int .u64 (vp : Nat), .int .u64 (ip : Nat), .int .i64 fr, .bool p0, .bool p1, .bool p2, .bool s0, .bool s1, .bool s2] 64) = W at *
  obtain ⟨lb, hlbe⟩ : ∃ lb, lb = w.heap.size := ⟨_, rfl⟩
  rw [← hlbe] at hlb ⊢
  have HSEP : Hid (Sep p gs bs q L ∧ ¬ lb ∈ bs ∧ ¬ lb = L) := Lib.hid ⟨HS0.out, fun e => (by have := HB.out.1 _ e; omega), fun e => (by have := HB.out.2; omega)⟩
  have h0 : PairS 3 7 (TA p gs bs n wy T) (TA p gs bs n wy T') (RA q L n wy N T.flatten) (RA q L n wy N T'.flatten) (LoseC W bs L lb #[Value.int .i64 lid, .int .i64 asid, .int .u64 (vp : Nat), .int .u64 (ip : Nat), .int .i64 fr, .bool p0, .bool p1, .bool p2, .bool s0, .bool s1, .bool s2]) (Array.replicate 10 false) W.drew :=
    pairS_start (tlb_old H.out.1 (old_drew hO)) (rt_old H.out.2 (old_drew hO)) ⟨(Only.refl _ W).drew, hlb⟩
  have HO := Lib.hid hO
  clear hlb hO hlbe
  refine wp_region_staged (S := PairS 3 7 (TA p gs bs n wy T) (TA p gs bs n wy T') (RA q L n wy N T.flatten) (RA q L n wy N T'.flatten) (LoseC W bs L lb #[Value.int .i64 lid, .int .i64 asid, .int .u64 (vp : Nat), .int .u64 (ip : Nat), .int .i64 fr, .bool p0, .bool p1, .bool p2, .bool s0, .bool s1, .bool s2])) 10 (by kernel_rfl) (by kernel_rfl) (by kernel_rfl) (by decide) h0 ?_
  clear h0
  apply walkedS_cons
  · intro l9 wS hz hn hS
    have HD := Lib.hid (pairS_other 0 (by decide) (by decide) hS)
    obtain ⟨k9, -, -⟩ := of_block hS.2.2.2
    clear hS hz hn
    go_wp2
    exact ⟨rfl, rfl, HD.out⟩
  · rfl
  (try simp only [Act.put, List.setIfInBounds_toArray, List.set_cons_succ, List.set_cons_zero])
  apply walkedS_cons
  · intro l9 wS hz hn hS
    have HD := Lib.hid (pairS_other 1 (by decide) (by decide) hS)
    obtain ⟨k9, -, -⟩ := of_block hS.2.2.2
    clear hS hz hn
    go_wp2
    exact ⟨rfl, rfl, HD.out⟩
  · rfl
  (try simp only [Act.put, List.setIfInBounds_toArray, List.set_cons_succ, List.set_cons_zero])
  apply walkedS_cons
  · intro l9 wS hz hn hS
    have HD := Lib.hid (pairS_other 2 (by decide) (by decide) hS)
    obtain ⟨k9, -, -⟩ := of_block hS.2.2.2
    clear hS hz hn
    go_wp2
    exact ⟨rfl, rfl, HD.out⟩
  · rfl
  (try simp only [Act.put, List.setIfInBounds_toArray, List.set_cons_succ, List.set_cons_zero])
  apply walkedS_cons
  · intro l9 wS hz hn hS
    obtain ⟨hA, hB9, hC⟩ := hS
    rw [hn] at hA
    have hc := HP.out.a wS hA
    have HQ := Lib.hid (And.intro hz (And.intro hB9 hC))
    clear hA hB9 hC hz hn
    go_wp2_with fail
    (with_reducible refine hc.mono ?_)
    rintro e y9 ⟨rfl, hI, hO⟩
    have HD : Hid (PairS 3 7 (TA p gs bs n wy T) (TA p gs bs n wy T') (RA q L n wy N T.flatten) (RA q L n wy N T'.flatten) (LoseC W bs L lb #[Value.int .i64 lid, .int .i64 asid, .int .u64 (vp : Nat), .int .u64 (ip : Nat), .int .i64 fr, .bool p0, .bool p1, .bool p2, .bool s0, .bool s1, .bool s2]) (l9.setIfInBounds 3 true) y9) := Lib.hid (pairS_first HQ.out.1 (by decide) (by decide) hI (both_rt HQ.out.2.1 hO HSEP.out.1) (loseC_a HQ.out.2.2 hO HSEP.out.2.1))
    clear hI hO hc
    go_wp2
    exact ⟨rfl, rfl, HD.out⟩
  · rfl
  (try simp only [Act.put, List.setIfInBounds_toArray, List.set_cons_succ, List.set_cons_zero])
  apply walkedS_cons
  · intro l9 wS hz hn hS
    have HD := Lib.hid (pairS_other 4 (by decide) (by decide) hS)
    obtain ⟨k9, -, -⟩ := of_block hS.2.2.2
    clear hS hz hn
    go_wp2
    exact ⟨rfl, rfl, HD.out⟩
  · rfl
  (try simp only [Act.put, List.setIfInBounds_toArray, List.set_cons_succ, List.set_cons_zero])
  apply walkedS_cons
  · intro l9 wS hz hn hS
    have HD := Lib.hid (pairS_other 5 (by decide) (by decide) hS)
    have HL9 : Hid (∀ (c : Nat) (v : Value), [Value.int .i64 lid, .int .i64 asid, .int .u64 (vp : Nat), .int .u64 (ip : Nat), .int .i64 fr, .bool p0, .bool p1, .bool p2, .bool s0, .bool s1, .bool s2][c]? = some v → wS.cell? ⟨lb, 0 + c, none⟩ = some v) := Lib.hid (fun c v hv => by rw [Nat.zero_add, cell_of hS.2.2.2]; simpa using hv)
    clear hS hz hn
    go_wp2_with (refine wpList_load_at rfl 64 _ rfl lb 0 rfl [Value.int .i64 lid, .int .i64 asid, .int .u64 (vp : Nat), .int .u64 (ip : Nat), .int .i64 fr, .bool p0, .bool p1, .bool p2, .bool s0, .bool s1, .bool s2] _ HL9.out Try.underlying64 rfl (by kernel_rfl) ?_)
    exact ⟨rfl, rfl, HD.out⟩
  · rfl
  (try simp only [Act.put, List.setIfInBounds_toArray, List.set_cons_succ, List.set_cons_zero])
  apply walkedS_cons
  · intro l9 wS hz hn hS
    have HD := Lib.hid (pairS_other 6 (by decide) (by decide) hS)
    obtain ⟨k9, -, -⟩ := of_block hS.2.2.2
    clear hS hz hn
    go_wp2
    exact ⟨rfl, rfl, HD.out⟩
  · rfl
  (try simp only [Act.put, List.setIfInBounds_toArray, List.set_cons_succ, List.set_cons_zero])
  apply walkedS_cons
  · intro l9 wS hz hn hS
    obtain ⟨hA9, hB, hC⟩ := hS
    rw [hn] at hB
    have hc := HP.out.b wS hB
    have HQ := Lib.hid (And.intro hz (And.intro hA9 hC))
    clear hA9 hB hC hz hn
    go_wp2_with fail
    (with_reducible refine hc.mono ?_)
    rintro e y9 ⟨rfl, hI, hO⟩
    have HD : Hid (PairS 3 7 (TA p gs bs n wy T) (TA p gs bs n wy T') (RA q L n wy N T.flatten) (RA q L n wy N T'.flatten) (LoseC W bs L lb #[Value.int .i64 lid, .int .i64 asid, .int .u64 (vp : Nat), .int .u64 (ip : Nat), .int .i64 fr, .bool p0, .bool p1, .bool p2, .bool s0, .bool s1, .bool s2]) (l9.setIfInBounds 7 true) y9) := Lib.hid (pairS_second HQ.out.1 (by decide) (by decide) (both_tlb HQ.out.2.1 hO HSEP.out.1) hI (loseC_b HQ.out.2.2 hO HSEP.out.2.2))
    clear hI hO hc
    go_wp2
    exact ⟨rfl, rfl, HD.out⟩
  · rfl
  (try simp only [Act.put, List.setIfInBounds_toArray, List.set_cons_succ, List.set_cons_zero])
  apply walkedS_cons
  · intro l9 wS hz hn hS
    have HD := Lib.hid (pairS_other 8 (by decide) (by decide) hS)
    obtain ⟨k9, -, -⟩ := of_block hS.2.2.2
    clear hS hz hn
    go_wp2
    exact ⟨rfl, rfl, HD.out⟩
  · rfl
  (try simp only [Act.put, List.setIfInBounds_toArray, List.set_cons_succ, List.set_cons_zero])
  apply walkedS_cons
  · intro l9 wS hz hn hS
    have HD := Lib.hid (pairS_other 9 (by decide) (by decide) hS)
    obtain ⟨k9, -, -⟩ := of_block hS.2.2.2
    clear hS hz hn
    go_wp2
    exact ⟨rfl, rfl, HD.out⟩
  · rfl
  (try simp only [Act.put, List.setIfInBounds_toArray, List.set_cons_succ, List.set_cons_zero])
  apply walkedS_nil
  intro l9 y hz hall hS
  obtain ⟨hA, hB, hC⟩ := hS
  rw [hall 3 (by decide)] at hA
  rw [hall 7 (by decide)] at hB
  have HE : Hid (RetL w p gs bs n wy q L N T' ct (.returned (.tuple #[.int .i64 (ct : Nat), .int .i64 (ct : Nat)])) y) := Lib.hid ⟨rfl, hA, hB, ((Only.of_below HO.out).mono fun _ _ f => f.elim).trans hC.1⟩
  clear hA hB hC hall hz l9
  show wpList _ _ _ [] _ _
  go_wp2
  go_ret2
  exact HE.out
set_option maxHeartbeats 8000000 in
set_option maxRecDepth 100000 in
theorem loseAll_both {lid asid : Int} {vp ip : Nat} {fr : Int} {p0 p1 p2 s0 s1 s2 : Bool} {ct : Nat} (h : IsTlb w p gs bs n wy T) (hr : IsRT w q L n wy N T.flatten) (hs : Sep p gs bs q L)
    (hP : PairC p gs bs n wy q L N T T' 39 #[.pointer (some ⟨p, 0, none⟩)] 79 #[.pointer (some ⟨q, 0, none⟩), .agg #[.bool false, .bool false, .bool false, .bool false, .bool false, .int .i64 0, .int .i64 0, .int .u64 0, .int .u64 0, .int .i64 0, .bool false, .bool false, .bool false, .bool false, .bool false, .bool false]] (.int .i64 (ct : Nat))) :
    Calls Try.prog 44 #[.pointer (some ⟨p, 0, none⟩), .pointer (some ⟨q, 0, none⟩), .int .i64 6, .agg #[Value.int .i64 lid, .int .i64 asid, .int .u64 (vp : Nat), .int .u64 (ip : Nat), .int .i64 fr, .bool p0, .bool p1, .bool p2, .bool s0, .bool s1, .bool s2]] w (RetL w p gs bs n wy q L N T' ct) := by
  have H := Lib.hid (And.intro h hr)
  have HP := Lib.hid hP
  have HS0 := Lib.hid hs
  clear h hr hP hs
  go_enter Try.func44, Try.ntmps44
  go_upto_region 1 with (fail)
  have hO := old_alloc (old_refl w) (.cells #[Value.int .i64 lid, .int .i64 asid, .int .u64 (vp : Nat), .int .u64 (ip : Nat), .int .i64 fr, .bool p0, .bool p1, .bool p2, .bool s0, .bool s1, .bool s2] 64)
  generalize w.alloc (.cells #[Value.int .i64 lid, .int .i64 asid, .int .u64 (vp : Nat), .int .u64 (ip : Nat), .int .i64 fr, .bool p0, .bool p1, .bool p2, .bool s0, .bool s1, .bool s2] 64) = W at *
  have hc := HP.out.a W (tlb_old H.out.1 hO)
  have HO := Lib.hid hO
  clear hO
  go_wp2_with fail
  (with_reducible refine hc.mono ?_)
  rintro e x1 ⟨rfl, h1, h2⟩
  have hr1 := rt_only (rt_old H.out.2 HO.out) h2 HS0.out.qb HS0.out.Lb
  have hc2 := HP.out.b x1 hr1
  have HX := Lib.hid (And.intro h1 h2)
  clear hc h1 h2 hr1
  go_wp2_with fail
  (with_reducible refine hc2.mono ?_)
  rintro e x2 ⟨rfl, h1, h2⟩
  have HE : Hid (RetL w p gs bs n wy q L N T' ct (.returned (.tuple #[.int .i64 (ct : Nat), .int .i64 (ct : Nat)])) x2) := Lib.hid ⟨rfl, tlb_only HX.out.1 h2 HS0.out.pL HS0.out.gL (fun c hc e => HS0.out.Lb (by rw [← e]; exact hc)), h1,
    (((Only.of_below HO.out).mono fun _ _ f => f.elim).trans (HX.out.2.mono fun _ _ e => .inl e)).trans (h2.mono fun _ _ e => .inr e)⟩
  clear h1 h2 hc2
  go_wp2
  go_ret2
  exact HE.out
end
end Go.Proofs.Ytfiofjalpaeohaa
