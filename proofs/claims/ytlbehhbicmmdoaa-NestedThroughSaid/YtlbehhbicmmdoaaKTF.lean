/- Texts on the way to the statement NestedThrough, several in one file: each part says what it is. -/
import Derived.Test.YtlbehhbicmmdoaaKTE
namespace Go.Proofs.Ytlbehhbicmmdoaa
set_option linter.unusedVariables false
set_option linter.unusedSimpArgs false
open Go.RowKit
/-- A reader's cells. -/
def rdC (p two : Nat) (on : Bool) (root : Nat) (sto : Bool) (lv wo : Int) (f : F5) : Array Value :=
  #[.pointer (some ⟨p, 0, none⟩), .int .u64 (two : Nat), .bool on, .int .u64 (root : Nat), .bool sto, .int .i64 lv, .int .i64 wo, .int .i64 f.st, .int .i64 f.k, .int .i64 f.lv, .int .u64 (f.ad : Nat), .bool f.store]
/-- What the reader keeps behind these. -/
structure RdS (X : Nat → Prop) (rp p frames : Nat) (wd : Nat → Nat) (N B two : Nat) (on : Bool) (root : Nat) (sto : Bool) (l : List Nat) (x : World) : Prop where
  mem : IsMemW x X p frames wd (N + 5 * l.length)
  blk : x.heap[rp]? = some (.cells (rdC p two on root sto (levelN (rawM frames wd) (okM frames) two l : Nat) (costsN (rawM frames wd) (okM frames) two l : Nat) (keptN (rawM frames wd) (okM frames) two sto l)) 111)
  own : X rp
  lt : rp < B
  old : ∀ b, ¬ X b → b < B
abbrev zOut : Array Value := #[.int .i64 0, .int .u64 0, .bool false, .bool false, .bool false, .bool false, .bool false, .bool false]
abbrev zFau : Array Value := #[.int .i64 0, .int .i64 0, .int .i64 0, .int .u64 0, .bool false]
abbrev frO (Q : Array Value) : FrE := ⟨15, 17, zOut, Q, 65⟩
abbrev frF (Q : Array Value) : FrE := ⟨16, 18, zFau, Q, 67⟩
section
variable {X : Nat → Prop} {rp p frames N B two root : Nat} {wd : Nat → Nat} {on sto : Bool} {l : List Nat} {x y : World}
theorem rdS_only (h : RdS X rp p frames wd N B two on root sto l x) (ho : Only (fun b => B ≤ b) x y) : RdS X rp p frames wd N B two on root sto l y :=
  { mem := memW_only h.mem ho (fun b hb e => by have := h.old b hb; omega), blk := keep_only ho (fun e => by have := h.lt; omega) h.blk, own := h.own, lt := h.lt, old := h.old }
theorem kept_none {raw : Nat → Nat} {ok : Nat → Bool} (h : ∀ b ∈ l, ok1N raw ok two b = true) : keptN raw ok two sto l = F0 ∧ levelN raw ok two l = l.length := by
  refine ⟨?_, ?_⟩
  · unfold keptN
    cases hl : l.getLast? with
    | none => rfl
    | some a => simp [h a (List.mem_of_getLast? hl)]
  · unfold levelN
    rw [List.filter_eq_self.2 h]
theorem kept_snoc {raw : Nat → Nat} {ok : Nat → Bool} {a : Nat} : keptN raw ok two sto (l ++ [a]) = (if ok1N raw ok two a then F0 else faultN raw ok two a (l.length : Int) sto) := by
  unfold keptN
  rw [List.getLast?_concat, List.length_append]
  simp
theorem costs_snoc {raw : Nat → Nat} {ok : Nat → Bool} {a : Nat} : costsN raw ok two (l ++ [a]) = costsN raw ok two l + costN raw ok two a := by
  unfold costsN
  rw [List.map_append, List.sum_append]; simp
theorem level_snoc {raw : Nat → Nat} {ok : Nat → Bool} {a : Nat} : levelN raw ok two (l ++ [a]) = levelN raw ok two l + if ok1N raw ok two a then 1 else 0 := by
  unfold levelN
  rw [List.filter_append, List.length_append]
  by_cases h : ok1N raw ok two a = true <;> simp [h]
set_option maxRecDepth 100000 in
theorem second_fr {raw : Nat → Nat} {ok : Nat → Bool} (two ipa : Nat) (access : Int) : (secondN raw ok two ipa access).1.fr * 4096 + 4095 < 18446744073709551616 := by
  have hol : ∀ lv k a, outN ipa lv k a < 18446744073709551616 := fun lv k a => by
    unfold outN; split
    · exact Nat.mod_lt _ (by decide)
    · decide
  have h0 : O0.fr * 4096 + 4095 < 18446744073709551616 := by decide
  unfold secondN
  dsimp only
  split
  · exact h0
  split
  · exact h0
  split
  · exact h0
  split
  · exact h0
  · have := hol (lastN (walkN raw ok 2 ipa 4 0 two).1).lv (lastN (walkN raw ok 2 ipa 4 0 two).1).d.k (lastN (walkN raw ok 2 ipa 4 0 two).1).d.a
    show outN ipa (lastN (walkN raw ok 2 ipa 4 0 two).1).lv (lastN (walkN raw ok 2 ipa 4 0 two).1).d.k (lastN (walkN raw ok 2 ipa 4 0 two).1).d.a / 4096 * 4096 + 4095 < _
    omega
set_option maxHeartbeats 8000000 in
set_option maxRecDepth 100000 in
theorem rd_calls (a : Nat) (hl : l.length < 4) (hall : ∀ b ∈ l, ok1N (rawM frames wd) (okM frames) two b = true) (hN : N < 3999999900) (htwo : two < 18446744073709551616) (ha : a < 18446744073709551616) (hS : RdS X rp p frames wd N B two on root sto l x) :
    Calls Try.prog 57 #[.pointer (some ⟨rp, 0, none⟩), .int .u64 (a : Nat)] x (fun e y => e = .returned (.tuple #[.int .u64 (raw1N (rawM frames wd) (okM frames) two a : Nat), .bool (ok1N (rawM frames wd) (okM frames) two a)]) ∧
      RdS X rp p frames wd N B two on root sto (l ++ [a]) y ∧ Only (fun b => ¬ X b ∨ b = rp) x y) := by
  obtain ⟨hk0, hl0⟩ := kept_none (sto := sto) hall
  have hcl := costs_le (raw := rawM frames wd) (ok := okM frames) (two := two) l
  have hblk := hS.blk
  rw [hk0, hl0] at hblk
  obtain ⟨c, hc⟩ : ∃ c, costsN (rawM frames wd) (okM frames) two l = c := ⟨_, rfl⟩
  obtain ⟨q, hq⟩ : ∃ q, secondN (rawM frames wd) (okM frames) two a 1 = q := ⟨_, rfl⟩
  have hok := second_ok (raw := rawM frames wd) (ok := okM frames) two a 1
  rw [hc] at hblk hcl
  unfold rdC F0 at hblk
  dsimp only at hblk
  have hse : ∀ w, IsMemW w (fun b => X b ∨ x.heap.size ≤ b) p frames wd (N + 5 * l.length) → Calls Try.prog 33 #[.pointer (some ⟨p, 0, none⟩), .int .u64 (two : Nat), .int .u64 (a : Nat), .int .i64 1] w (RetSec w (fun b => X b ∨ x.heap.size ≤ b) p frames wd (N + 5 * l.length + 4) q) := fun w hw => by
    have := second_calls hw (by omega) two a htwo ha 1
    rw [hq] at this
    exact this
  rw [hq] at hok
  have hmem : IsMemW x.drew (fun b => X b ∨ x.heap.size ≤ b) p frames wd (N + 5 * l.length) := memW_drew (memW_more hS.mem (fun b hb => hb))
  obtain ⟨n, hn⟩ : ∃ n, l.length = n := ⟨_, rfl⟩
  rw [hn] at hblk hse hmem hcl
  obtain ⟨⟨ofr, oip, o1, o2, o3, o4, o5, o6⟩, ⟨fst, fk, flv, fad, fsto⟩, nq⟩ := q
  have hbx := lt_of_block hblk
  have hbX : ∀ b, ¬ (X b ∨ x.heap.size ≤ b) → b < x.heap.size := fun b hb => Nat.lt_of_not_le (fun e => hb (.inr e))
  have hFC : FreeC 20 10 x.drew (fun w => IsMemW w (fun b => X b ∨ x.heap.size ≤ b) p frames wd (N + 5 * n)) (fun w => IsMemW w (fun b => X b ∨ x.heap.size ≤ b) p frames wd (N + 5 * n + 4)) (fun b => ¬ (X b ∨ x.heap.size ≤ b))
      [frO #[Value.int .i64 (ofr : Nat), .int .u64 (oip : Nat), .bool o1, .bool o2, .bool o3, .bool o4, .bool o5, .bool o6], frF #[Value.int .i64 fst, .int .i64 fk, .int .i64 flv, .int .u64 (fad : Nat), .bool fsto]] :=
    { old := hbX
      k0 := fun w w' h ho => memW_only h ho (fun b hb e => hb (.inr e))
      k1 := fun w w' h ho => memW_only h ho (fun b hb e => hb (.inr e))
      JA := by simp, JB := by simp, AB := by simp, BB := by simp, AN := by simp, one := by simp, JN := by decide }
  have HFC := Lib.hid hFC
  have HSE := Lib.hid hse
  have HRL := Lib.hid (And.intro (show rp < x.drew.heap.size from hbx) (And.intro (show ¬ ¬ (X rp ∨ x.heap.size ≤ rp) from fun h => h (.inl hS.own)) (show x.drew.heap[rp]? = _ from hblk)))
  have HB := Lib.hid (And.intro hc (And.intro hcl (And.intro hn (And.intro hl (And.intro hok (And.intro hmem (And.intro hq (And.intro hk0 hl0))))))))
  have HU := Lib.hid (And.intro hN (And.intro htwo ha))
  have HS := Lib.hid hS
  clear hk0 hl0 hcl hblk hc hq hok hse hmem hn hbx hbX hFC hN htwo ha hl hS hall
  go_enter Try.func57, Try.ntmps57
  go_upto_region 1 with (fail)
  obtain ⟨SS, hSS⟩ : ∃ SS : (Nat → Value) → Array Bool → World → Prop, SS = (fun v l9 y9 => FreeM 10 x.drew (fun w => IsMemW w (fun b => X b ∨ x.heap.size ≤ b) p frames wd (N + 5 * n)) (fun w => IsMemW w (fun b => X b ∨ x.heap.size ≤ b) p frames wd (N + 5 * n + 4)) (fun b => ¬ (X b ∨ x.heap.size ≤ b)) [frO #[Value.int .i64 (ofr : Nat), .int .u64 (oip : Nat), .bool o1, .bool o2, .bool o3, .bool o4, .bool o5, .bool o6], frF #[Value.int .i64 fst, .int .i64 fk, .int .i64 flv, .int .u64 (fad : Nat), .bool fsto]] v l9 y9) := ⟨_, rfl⟩
  have HSS := Lib.hid hSS
  clear hSS
  refine wp_region_frees (S := SS) (freeF [frO #[Value.int .i64 (ofr : Nat), .int .u64 (oip : Nat), .bool o1, .bool o2, .bool o3, .bool o4, .bool o5, .bool o6], frF #[Value.int .i64 fst, .int .i64 fk, .int .i64 flv, .int .u64 (fad : Nat), .bool fsto]]) 20 ?run1 (fun j C v l x h hz hn hS => by rw [HSS.out] at hS ⊢; exact freeM_free HFC.out j C v l x h hz hn hS) (by kernel_rfl) (by kernel_rfl) (by kernel_rfl) (by decide) (fun _ => undef) (by rw [HSS.out]; exact freeM_start HB.out.2.2.2.2.2.1) ?_
  case run1 =>
    intro j o C ho hF
    obtain ⟨e, he, rfl, rfl⟩ := freeF_spec hF
    simp only [List.mem_cons, List.not_mem_nil, or_false] at he
    rcases he with rfl | rfl
    · simp at ho; subst ho; exact ⟨rfl, by intro b y; simp [execOp, go_sem]⟩
    · simp at ho; subst ho; exact ⟨rfl, by intro b y; simp [execOp, go_sem]⟩
  apply walkedG_step _ (.pointer (some ⟨rp, 0, none⟩))
  rotate_left 2
  · intro v l9 wS hz hn hm hS
    rw [HSS.out] at hS
    have hS9 := freeM_other 0 (by decide) (by simp) hS
    obtain ⟨k9, -, -⟩ := of_block (freeM_block hS HRL.out.1 HRL.out.2.1 HRL.out.2.2)
    clear hS hm
    go_wp2
    exact ⟨rfl, rfl, by rw [HSS.out]; exact hS9⟩
  rotate_left
  · intro v; kernel_rfl
  · simp [freeF]
  apply walkedG_step _ (.pointer (some ⟨rp, 0, none⟩))
  rotate_left 2
  · intro v l9 wS hz hn hm hS
    rw [HSS.out] at hS
    have hS9 := freeM_other 1 (by decide) (by simp) hS
    obtain ⟨k9, -, -⟩ := of_block (freeM_block hS HRL.out.1 HRL.out.2.1 HRL.out.2.2)
    clear hS hm
    go_wp2
    exact ⟨rfl, rfl, by rw [HSS.out]; exact hS9⟩
  rotate_left
  · intro v; kernel_rfl
  · simp [freeF]
  apply walkedG_step _ (.pointer (some ⟨rp, 0, none⟩))
  rotate_left 2
  · intro v l9 wS hz hn hm hS
    rw [HSS.out] at hS
    have hS9 := freeM_other 2 (by decide) (by simp) hS
    obtain ⟨k9, -, -⟩ := of_block (freeM_block hS HRL.out.1 HRL.out.2.1 HRL.out.2.2)
    clear hS hm
    go_wp2
    exact ⟨rfl, rfl, by rw [HSS.out]; exact hS9⟩
  rotate_left
  · intro v; kernel_rfl
  · simp [freeF]
  apply walkedG_step _ (.pointer (some ⟨p, 0, none⟩))
  rotate_left 2
  · intro v l9 wS hz hn hm hS
    rw [HSS.out] at hS
    have hS9 := freeM_other 3 (by decide) (by simp) hS
    obtain ⟨k9, -, -⟩ := of_block (freeM_block hS HRL.out.1 HRL.out.2.1 HRL.out.2.2)
    clear hS hm
    go_wp2
    exact ⟨rfl, rfl, by rw [HSS.out]; exact hS9⟩
  rotate_left
  · intro v; kernel_rfl
  · simp [freeF]
  apply walkedG_step _ (.pointer (some ⟨rp, 0, none⟩))
  rotate_left 2
  · intro v l9 wS hz hn hm hS
    rw [HSS.out] at hS
    have hS9 := freeM_other 4 (by decide) (by simp) hS
    obtain ⟨k9, -, -⟩ := of_block (freeM_block hS HRL.out.1 HRL.out.2.1 HRL.out.2.2)
    clear hS hm
    go_wp2
    exact ⟨rfl, rfl, by rw [HSS.out]; exact hS9⟩
  rotate_left
  · intro v; kernel_rfl
  · simp [freeF]
  apply walkedG_step _ (.pointer (some ⟨rp, 0, none⟩))
  rotate_left 2
  · intro v l9 wS hz hn hm hS
    rw [HSS.out] at hS
    have hS9 := freeM_other 5 (by decide) (by simp) hS
    obtain ⟨k9, -, -⟩ := of_block (freeM_block hS HRL.out.1 HRL.out.2.1 HRL.out.2.2)
    clear hS hm
    go_wp2
    exact ⟨rfl, rfl, by rw [HSS.out]; exact hS9⟩
  rotate_left
  · intro v; kernel_rfl
  · simp [freeF]
  apply walkedG_step _ (.pointer (some ⟨rp, 1, none⟩))
  rotate_left 2
  · intro v l9 wS hz hn hm hS
    rw [HSS.out] at hS
    have hS9 := freeM_other 6 (by decide) (by simp) hS
    obtain ⟨k9, -, -⟩ := of_block (freeM_block hS HRL.out.1 HRL.out.2.1 HRL.out.2.2)
    clear hS hm
    go_wp2
    exact ⟨rfl, rfl, by rw [HSS.out]; exact hS9⟩
  rotate_left
  · intro v; kernel_rfl
  · simp [freeF]
  apply walkedG_step _ (.pointer (some ⟨rp, 1, none⟩))
  rotate_left 2
  · intro v l9 wS hz hn hm hS
    rw [HSS.out] at hS
    have hS9 := freeM_other 7 (by decide) (by simp) hS
    obtain ⟨k9, -, -⟩ := of_block (freeM_block hS HRL.out.1 HRL.out.2.1 HRL.out.2.2)
    clear hS hm
    go_wp2
    exact ⟨rfl, rfl, by rw [HSS.out]; exact hS9⟩
  rotate_left
  · intro v; kernel_rfl
  · simp [freeF]
  apply walkedG_step _ (.int .u64 (two : Nat))
  rotate_left 2
  · intro v l9 wS hz hn hm hS
    rw [HSS.out] at hS
    have hS9 := freeM_other 8 (by decide) (by simp) hS
    obtain ⟨k9, -, -⟩ := of_block (freeM_block hS HRL.out.1 HRL.out.2.1 HRL.out.2.2)
    clear hS hm
    go_wp2
    exact ⟨rfl, rfl, by rw [HSS.out]; exact hS9⟩
  rotate_left
  · intro v; kernel_rfl
  · simp [freeF]
  apply walkedG_step _ (.int .u64 (a : Nat))
  rotate_left 2
  · intro v l9 wS hz hn hm hS
    rw [HSS.out] at hS
    have hS9 := freeM_other 9 (by decide) (by simp) hS
    obtain ⟨k9, -, -⟩ := of_block (freeM_block hS HRL.out.1 HRL.out.2.1 HRL.out.2.2)
    clear hS hm
    go_wp2
    exact ⟨rfl, rfl, by rw [HSS.out]; exact hS9⟩
  rotate_left
  · intro v; kernel_rfl
  · simp [freeF]
  apply walkedG_step _ (.tuple #[.agg #[Value.int .i64 (ofr : Nat), .int .u64 (oip : Nat), .bool o1, .bool o2, .bool o3, .bool o4, .bool o5, .bool o6], .agg #[Value.int .i64 fst, .int .i64 fk, .int .i64 flv, .int .u64 (fad : Nat), .bool fsto], .int .i64 (nq : Nat)])
  rotate_left 2
  · intro v l9 wS hz hn hm hS
    rw [HSS.out] at hS
    have hc := HSE.out wS (freeM_before hn hS)
    have hfin := fun y hM ho => freeM_call (y := y) HFC.out hz hS hM ho
    clear hS hm
    go_wp2_with fail
    (with_reducible refine hc.mono ?_)
    rintro e y ⟨rfl, hM, ho⟩
    have hf := hfin y hM ho
    clear hfin hc hM ho
    go_wp2
    exact ⟨rfl, rfl, by rw [HSS.out]; exact hf⟩
  rotate_left
  · intro v; kernel_rfl
  · simp [freeF]
  apply walkedG_step _ (.tuple #[.agg #[Value.int .i64 (ofr : Nat), .int .u64 (oip : Nat), .bool o1, .bool o2, .bool o3, .bool o4, .bool o5, .bool o6], .agg #[Value.int .i64 fst, .int .i64 fk, .int .i64 flv, .int .u64 (fad : Nat), .bool fsto], .int .i64 (nq : Nat)])
  rotate_left 2
  · intro v l9 wS hz hn hm hS
    rw [HSS.out] at hS
    have hS9 := freeM_other 11 (by decide) (by simp) hS
    obtain ⟨k9, -, -⟩ := of_block (freeM_block hS HRL.out.1 HRL.out.2.1 HRL.out.2.2)
    clear hS hm
    go_wp2
    exact ⟨rfl, rfl, by rw [HSS.out]; exact hS9⟩
  rotate_left
  · intro v; kernel_rfl
  · simp [freeF]
  apply walkedG_step _ (.agg #[Value.int .i64 (ofr : Nat), .int .u64 (oip : Nat), .bool o1, .bool o2, .bool o3, .bool o4, .bool o5, .bool o6])
  rotate_left 2
  · intro v l9 wS hz hn hm hS
    rw [HSS.out] at hS
    have hS9 := freeM_other 12 (by decide) (by simp) hS
    obtain ⟨k9, -, -⟩ := of_block (freeM_block hS HRL.out.1 HRL.out.2.1 HRL.out.2.2)
    clear hS hm
    go_wp2
    exact ⟨rfl, rfl, by rw [HSS.out]; exact hS9⟩
  rotate_left
  · intro v; kernel_rfl
  · simp [freeF]
  apply walkedG_step _ (.agg #[Value.int .i64 fst, .int .i64 fk, .int .i64 flv, .int .u64 (fad : Nat), .bool fsto])
  rotate_left 2
  · intro v l9 wS hz hn hm hS
    rw [HSS.out] at hS
    have hS9 := freeM_other 13 (by decide) (by simp) hS
    obtain ⟨k9, -, -⟩ := of_block (freeM_block hS HRL.out.1 HRL.out.2.1 HRL.out.2.2)
    clear hS hm
    go_wp2
    exact ⟨rfl, rfl, by rw [HSS.out]; exact hS9⟩
  rotate_left
  · intro v; kernel_rfl
  · simp [freeF]
  apply walkedG_step _ (.int .i64 (nq : Nat))
  rotate_left 2
  · intro v l9 wS hz hn hm hS
    rw [HSS.out] at hS
    have hS9 := freeM_other 14 (by decide) (by simp) hS
    obtain ⟨k9, -, -⟩ := of_block (freeM_block hS HRL.out.1 HRL.out.2.1 HRL.out.2.2)
    clear hS hm
    go_wp2
    exact ⟨rfl, rfl, by rw [HSS.out]; exact hS9⟩
  rotate_left
  · intro v; kernel_rfl
  · simp [freeF]
  refine walkedG_free (by simp [freeF]) ?_
  (try simp only [Act.put, List.setIfInBounds_toArray, List.set_cons_succ, List.set_cons_zero])
  refine walkedG_free (by simp [freeF]) ?_
  (try simp only [Act.put, List.setIfInBounds_toArray, List.set_cons_succ, List.set_cons_zero])
  apply walkedG_step _ undef
  rotate_left 2
  · intro v l9 wS hz hn hm hS
    rw [HSS.out] at hS
    have hA : l9.getD 15 false = true := hm _ rfl ⟨15, .data⟩ (by simp) rfl
    obtain ⟨r, hvr, hr, hblk⟩ := hS.blk (frO #[Value.int .i64 (ofr : Nat), .int .u64 (oip : Nat), .bool o1, .bool o2, .bool o3, .bool o4, .bool o5, .bool o6]) (by simp) hA
    have hvr : v 15 = .pointer (some ⟨r, 0, none⟩) := hvr
    have hfin := freeM_store HFC.out hz (frO #[Value.int .i64 (ofr : Nat), .int .u64 (oip : Nat), .bool o1, .bool o2, .bool o3, .bool o4, .bool o5, .bool o6]) (by simp) hA hvr hS
    have hblk : wS.heap[r]? = some (.cells (bif l9.getD 17 false then _ else _) _) := hblk
    rw [hn] at hblk
    clear hS hm
    refine wpList_store_whole rfl 65 _ _ rfl r [Value.int .i64 (ofr : Nat), .int .u64 (oip : Nat), .bool o1, .bool o2, .bool o3, .bool o4, .bool o5, .bool o6] hvr rfl 65 _ hblk (by kernel_rfl) rfl (by intro v hv; simp only [List.mem_cons, List.not_mem_nil, or_false] at hv; rcases hv with rfl | rfl | rfl | rfl | rfl | rfl | rfl | rfl <;> rfl) ?_
    exact ⟨rfl, rfl, by rw [HSS.out]; exact hfin⟩
  rotate_left
  · intro v; kernel_rfl
  · simp [freeF]
  apply walkedG_step _ undef
  rotate_left 2
  · intro v l9 wS hz hn hm hS
    rw [HSS.out] at hS
    have hA : l9.getD 16 false = true := hm _ rfl ⟨16, .data⟩ (by simp) rfl
    obtain ⟨r, hvr, hr, hblk⟩ := hS.blk (frF #[Value.int .i64 fst, .int .i64 fk, .int .i64 flv, .int .u64 (fad : Nat), .bool fsto]) (by simp) hA
    have hvr : v 16 = .pointer (some ⟨r, 0, none⟩) := hvr
    have hfin := freeM_store HFC.out hz (frF #[Value.int .i64 fst, .int .i64 fk, .int .i64 flv, .int .u64 (fad : Nat), .bool fsto]) (by simp) hA hvr hS
    have hblk : wS.heap[r]? = some (.cells (bif l9.getD 18 false then _ else _) _) := hblk
    rw [hn] at hblk
    clear hS hm
    refine wpList_store_whole rfl 67 _ _ rfl r [Value.int .i64 fst, .int .i64 fk, .int .i64 flv, .int .u64 (fad : Nat), .bool fsto] hvr rfl 67 _ hblk (by kernel_rfl) rfl (by intro v hv; simp only [List.mem_cons, List.not_mem_nil, or_false] at hv; rcases hv with rfl | rfl | rfl | rfl | rfl <;> rfl) ?_
    exact ⟨rfl, rfl, by rw [HSS.out]; exact hfin⟩
  rotate_left
  · intro v; kernel_rfl
  · simp [freeF]
  apply walkedG_step _ (.int .i64 (nq : Nat))
  rotate_left 2
  · intro v l9 wS hz hn hm hS
    rw [HSS.out] at hS
    have hS9 := freeM_other 19 (by decide) (by simp) hS
    obtain ⟨k9, -, -⟩ := of_block (freeM_block hS HRL.out.1 HRL.out.2.1 HRL.out.2.2)
    clear hS hm
    go_wp2
    exact ⟨rfl, rfl, by rw [HSS.out]; exact hS9⟩
  rotate_left
  · intro v; kernel_rfl
  · simp [freeF]
  refine walkedG_nil fun v l9 y hz hall hS => ?_
  have b10 := hall 10 (by decide)
  have b15 := hall 15 (by decide)
  have b16 := hall 16 (by decide)
  have b17 := hall 17 (by decide)
  have b18 := hall 18 (by decide)
  rw [HSS.out] at hS
  obtain ⟨b6, hv6, h6, hb6⟩ := freeM_end hS (frO #[Value.int .i64 (ofr : Nat), .int .u64 (oip : Nat), .bool o1, .bool o2, .bool o3, .bool o4, .bool o5, .bool o6]) (by simp) b15 b17
  obtain ⟨b7, hv7, h7, hb7⟩ := freeM_end hS (frF #[Value.int .i64 fst, .int .i64 fk, .int .i64 flv, .int .u64 (fad : Nat), .bool fsto]) (by simp) b16 b18
  have h67 : b6 ≠ b7 := fun e => hS.ne (frO #[Value.int .i64 (ofr : Nat), .int .u64 (oip : Nat), .bool o1, .bool o2, .bool o3, .bool o4, .bool o5, .bool o6]) (by simp) (frF #[Value.int .i64 fst, .int .i64 fk, .int .i64 flv, .int .u64 (fad : Nat), .bool fsto]) (by simp) (show (15 : Nat) ≠ 16 by decide) b15 b16 (by rw [hv6, hv7, e])
  replace hv6 : v 15 = .pointer (some ⟨b6, 0, none⟩) := hv6
  replace hv7 : v 16 = .pointer (some ⟨b7, 0, none⟩) := hv7
  replace hb6 : y.heap[b6]? = some (.cells #[Value.int .i64 (ofr : Nat), .int .u64 (oip : Nat), .bool o1, .bool o2, .bool o3, .bool o4, .bool o5, .bool o6] 65) := hb6
  replace hb7 : y.heap[b7]? = some (.cells #[Value.int .i64 fst, .int .i64 fk, .int .i64 flv, .int .u64 (fad : Nat), .bool fsto] 67) := hb7
  have hmy := freeM_behind b10 hS
  have hrp := freeM_block hS HRL.out.1 HRL.out.2.1 HRL.out.2.2
  replace h6 : x.heap.size ≤ b6 := h6
  replace h7 : x.heap.size ≤ b7 := h7
  have hoy : Only (fun b => ¬ (X b ∨ x.heap.size ≤ b)) x y := ((Only.of_below (old_drew (old_refl x))).mono fun b _ f => f.elim).trans hS.only
  have hrx := HRL.out.1
  replace hrx : rp < x.heap.size := hrx
  rw [hv6, hv7]
  show wpList _ _ _ [] _ _
  have hset : y.setCell ⟨rp, 6, none⟩ (.int .i64 ((c : Int) + (nq : Int))) = putB y rp (.cells #[.pointer (some ⟨p, 0, none⟩), .int .u64 (two : Nat), .bool on, .int .u64 (root : Nat), .bool sto, .int .i64 (n : Nat), .int .i64 ((c + nq : Nat) : Int), .int .i64 0, .int .i64 0, .int .i64 0, .int .u64 ((0 : Nat) : Int), .bool false] 111) := by rw [set_of hrp]; rfl
  have hR1 := putB_same (.cells #[.pointer (some ⟨p, 0, none⟩), .int .u64 (two : Nat), .bool on, .int .u64 (root : Nat), .bool sto, .int .i64 (n : Nat), .int .i64 ((c + nq : Nat) : Int), .int .i64 0, .int .i64 0, .int .i64 0, .int .u64 ((0 : Nat) : Int), .bool false] 111) (lt_of_block hrp)
  have hb6' := (putB_other (.cells #[.pointer (some ⟨p, 0, none⟩), .int .u64 (two : Nat), .bool on, .int .u64 (root : Nat), .bool sto, .int .i64 (n : Nat), .int .i64 ((c + nq : Nat) : Int), .int .i64 0, .int .i64 0, .int .i64 0, .int .u64 ((0 : Nat) : Int), .bool false] 111) (show rp ≠ b6 by omega)).trans hb6
  have hb7' := (putB_other (.cells #[.pointer (some ⟨p, 0, none⟩), .int .u64 (two : Nat), .bool on, .int .u64 (root : Nat), .bool sto, .int .i64 (n : Nat), .int .i64 ((c + nq : Nat) : Int), .int .i64 0, .int .i64 0, .int .i64 0, .int .u64 ((0 : Nat) : Int), .bool false] 111) (show rp ≠ b7 by omega)).trans hb7
  have ho2 : Only (fun b => b = rp) y (putB y rp (.cells #[.pointer (some ⟨p, 0, none⟩), .int .u64 (two : Nat), .bool on, .int .u64 (root : Nat), .bool sto, .int .i64 (n : Nat), .int .i64 ((c + nq : Nat) : Int), .int .i64 0, .int .i64 0, .int .i64 0, .int .u64 ((0 : Nat) : Int), .bool false] 111)) := (Only.refl _ _).putB _ (fun _ => rfl)
  have hm2 := memW_only hmy ho2 (fun b hb e => by subst e; exact hb (.inl HS.out.own))
  have ho3 : Only (fun b => ¬ X b ∨ b = rp) x (putB y rp (.cells #[.pointer (some ⟨p, 0, none⟩), .int .u64 (two : Nat), .bool on, .int .u64 (root : Nat), .bool sto, .int .i64 (n : Nat), .int .i64 ((c + nq : Nat) : Int), .int .i64 0, .int .i64 0, .int .i64 0, .int .u64 ((0 : Nat) : Int), .bool false] 111)) := (hoy.mono fun b _ f => .inl (fun h => f (.inl h))).trans (ho2.mono fun b _ e => .inr e)
  obtain ⟨kr, qr, zr⟩ := of_block hrp
  obtain ⟨k7, q7, z7⟩ := of_block hb7'
  generalize putB y rp (.cells #[.pointer (some ⟨p, 0, none⟩), .int .u64 (two : Nat), .bool on, .int .u64 (root : Nat), .bool sto, .int .i64 (n : Nat), .int .i64 ((c + nq : Nat) : Int), .int .i64 0, .int .i64 0, .int .i64 0, .int .u64 ((0 : Nat) : Int), .bool false] 111) = Y1 at *
  have c15 : (c : Int) ≤ 15 := by have := HB.out.2.1; have := HB.out.2.2.2.1; have := HB.out.2.2.1; omega
  have n4 : (nq : Int) ≤ 4 := by have : nq ≤ 4 := HB.out.2.2.2.2.1.n4; omega
  have HY := Lib.hid (And.intro hR1 (And.intro hb6' (And.intro hb7' (And.intro hm2 (And.intro ho3 (And.intro h67 (And.intro h6 (And.intro h7 hrx))))))))
  clear hall b10 b15 b16 b17 b18 hS hv6 hv7 h67 hb6 hb7 hmy hrp h6 h7 hoy hrx hR1 hb6' hb7' ho2 hm2 ho3 HSE HRL HFC HSS z7 hz l9
  obtain ⟨cq, hcq⟩ : ∃ cq, c + nq = cq := ⟨_, rfl⟩
  rw [hcq] at HY
  have HCQ := Lib.hid hcq
  have cq19 : (cq : Int) ≤ 19 := by omega
  have hcqi : (c : Int) + (nq : Int) = (cq : Int) := by omega
  rw [hcqi] at hset
  clear hcq
  by_cases hfk : fk = 0
  · have hq0 := (HB.out.2.2.2.2.1.yes hfk).1
    have hfr := second_fr (raw := rawM frames wd) (ok := okM frames) two a 1
    rw [HB.out.2.2.2.2.2.2.1] at hfr
    replace hfr : ofr * 4096 + 4095 < 18446744073709551616 := hfr
    obtain ⟨rfl, rfl, rfl, rfl, rfl⟩ : fst = 0 ∧ fk = 0 ∧ flv = 0 ∧ fad = 0 ∧ fsto = false := by unfold F0 at hq0; injection hq0 with a1 a2 a3 a4 a5; exact ⟨a1, a2, a3, a4, a5⟩
    obtain ⟨M, hM⟩ : ∃ M, ofr * 4096 = M := ⟨_, rfl⟩
    obtain ⟨R, hR⟩ : ∃ R, a % 4096 = R := ⟨_, rfl⟩
    obtain ⟨AD, hAD⟩ : ∃ AD, M + R = AD := ⟨_, rfl⟩
    have e1 : IntKind.u64.wrap (ofr : Int) = ofr := IntWalk.u64_in _ (by omega)
    have e2 : IntKind.u64.wrap ((ofr : Int) * 4096) = M := by rw [IntWalk.u64_in _ (by omega)]; omega
    have e3 : (a : Int) % 4096 = R := by omega
    have hRl : R < 4096 := by omega
    have e4 : IntKind.u64.wrap ((M : Int) + (R : Int)) = AD := by rw [IntWalk.u64_in _ (by omega)]; omega
    have hADl : AD < 18446744073709551616 := by omega
    obtain ⟨V, E, hrd, hyes, hno⟩ : ∃ (V : Nat) (E : Int), (∀ w, IsMemW w (fun b => X b ∨ x.heap.size ≤ b) p frames wd (N + 5 * n + 4) → Calls Try.prog 60 #[.pointer (some ⟨p, 0, none⟩), .int .u64 (AD : Nat), .int .i64 8] w (fun e y => e = .returned (.tuple #[.int .u64 (V : Nat), .int .i64 E]) ∧ IsMemW y (fun b => X b ∨ x.heap.size ≤ b) p frames wd (N + 5 * n + 5) ∧ Only (fun b => ¬ (X b ∨ x.heap.size ≤ b)) w y)) ∧
        (okM frames AD = true → V = rawM frames wd AD ∧ E = 0) ∧ (okM frames AD = false → E ≠ 0) := by
      cases hok : okM frames AD with
      | true => exact ⟨wd AD, 0, fun w hw => memW_read hw (by have := HU.out.1; have := HB.out.2.2.2.1; have := HB.out.2.2.1; omega) AD hADl hok, fun _ => ⟨(rawM_yes hok).symm, rfl⟩, fun h => by cases h⟩
      | false =>
        by_cases hx : ∃ w, IsMemW w (fun b => X b ∨ x.heap.size ≤ b) p frames wd (N + 5 * n + 4)
        · obtain ⟨w, hw⟩ := hx
          have hp : placeE frames AD 8 ≠ 0 := fun e => by rw [okM_place] at e; rw [hok] at e; cases e
          exact ⟨0, placeE frames AD 8, fun w hw => by
            obtain ⟨pg, ops, g1, g2, g3⟩ := hw
            exact (read_fail2 g2 AD hADl 8 hp).mono fun e y hr => ⟨hr.1, memW_le (memW_old ⟨pg, ops, g1, g2, g3⟩ hr.2) (by omega), (Only.of_below hr.2).mono fun b _ f => f.elim⟩, (fun h => by cases h), fun _ => hp⟩
        · exact ⟨0, 1, fun w hw => absurd ⟨w, hw⟩ hx, (fun h => by cases h), fun _ => by decide⟩
    have hFD : FreeC 17 11 Y1.drew (fun w => IsMemW w (fun b => X b ∨ x.heap.size ≤ b) p frames wd (N + 5 * n + 4)) (fun w => IsMemW w (fun b => X b ∨ x.heap.size ≤ b) p frames wd (N + 5 * n + 5)) (fun b => ¬ (X b ∨ x.heap.size ≤ b)) [] :=
      { old := fun b hb => Nat.lt_of_lt_of_le (Nat.lt_of_not_le (fun e => hb (.inr e))) HY.out.2.2.2.2.1.size
        k0 := fun w w' h ho => memW_only h ho (fun b hb e => hb (.inr (Nat.le_trans HY.out.2.2.2.2.1.size e)))
        k1 := fun w w' h ho => memW_only h ho (fun b hb e => hb (.inr (Nat.le_trans HY.out.2.2.2.2.1.size e)))
        JA := by simp, JB := by simp, AB := by simp, BB := by simp, AN := by simp, one := by simp, JN := by decide }
    have HFD := Lib.hid hFD
    have HRD := Lib.hid hrd
    have HVE := Lib.hid (And.intro hyes hno)
    have HAD := Lib.hid (And.intro hM (And.intro hR hAD))
    have HRL2 := Lib.hid (And.intro (show rp < Y1.drew.heap.size from lt_of_block HY.out.1) (And.intro (show ¬ ¬ (X rp ∨ x.heap.size ≤ rp) from fun h => h (.inl HS.out.own)) (show Y1.drew.heap[rp]? = _ from HY.out.1)))
    have HRL3 := Lib.hid (And.intro (show b6 < Y1.drew.heap.size from lt_of_block HY.out.2.1) (And.intro (show ¬ ¬ (X b6 ∨ x.heap.size ≤ b6) from fun h => h (.inr HY.out.2.2.2.2.2.2.1)) (show Y1.drew.heap[b6]? = _ from HY.out.2.1)))
    have HRL4 := Lib.hid (And.intro (show b7 < Y1.drew.heap.size from lt_of_block HY.out.2.2.1) (And.intro (show ¬ ¬ (X b7 ∨ x.heap.size ≤ b7) from fun h => h (.inr HY.out.2.2.2.2.2.2.2.1)) (show Y1.drew.heap[b7]? = _ from HY.out.2.2.1)))
    obtain ⟨S4, hS4⟩ : ∃ S4 : Array Bool → World → Prop, S4 = (fun l9 y9 => FreeM 11 Y1.drew (fun w => IsMemW w (fun b => X b ∨ x.heap.size ≤ b) p frames wd (N + 5 * n + 4)) (fun w => IsMemW w (fun b => X b ∨ x.heap.size ≤ b) p frames wd (N + 5 * n + 5)) (fun b => ¬ (X b ∨ x.heap.size ≤ b)) [] (fun _ => undef) l9 y9) := ⟨_, rfl⟩
    have HS4 := Lib.hid hS4
    clear hS4 hq0 hfr hfk hM hR hAD hRl hADl hrd hyes hno hFD
    go_upto_region 4 with (fail)
    clear kr qr zr k7 q7 hset hcqi
    refine wp_region_staged (S := S4) 17 (by kernel_rfl) (by kernel_rfl) (by kernel_rfl) (by decide) (by rw [HS4.out]; exact freeM_start (memW_drew HY.out.2.2.2.1)) ?_
    apply walkedS_cons
    · intro l9 wS hz hn hS
      rw [HS4.out] at hS
      have hS9 := freeM_other 0 (by decide) (by simp) hS
      obtain ⟨k9, -, -⟩ := of_block (freeM_block hS HRL2.out.1 HRL2.out.2.1 HRL2.out.2.2)
      obtain ⟨k8, -, -⟩ := of_block (freeM_block hS HRL3.out.1 HRL3.out.2.1 HRL3.out.2.2)
      clear hS
      go_wp2
      exact ⟨rfl, rfl, by rw [HS4.out]; exact hS9⟩
    · rfl
    (try simp only [Act.put, List.setIfInBounds_toArray, List.set_cons_succ, List.set_cons_zero])
    apply walkedS_cons
    · intro l9 wS hz hn hS
      rw [HS4.out] at hS
      have hS9 := freeM_other 1 (by decide) (by simp) hS
      obtain ⟨k9, -, -⟩ := of_block (freeM_block hS HRL2.out.1 HRL2.out.2.1 HRL2.out.2.2)
      obtain ⟨k8, -, -⟩ := of_block (freeM_block hS HRL3.out.1 HRL3.out.2.1 HRL3.out.2.2)
      clear hS
      go_wp2
      exact ⟨rfl, rfl, by rw [HS4.out]; exact hS9⟩
    · rfl
    (try simp only [Act.put, List.setIfInBounds_toArray, List.set_cons_succ, List.set_cons_zero])
    apply walkedS_cons
    · intro l9 wS hz hn hS
      rw [HS4.out] at hS
      have hS9 := freeM_other 2 (by decide) (by simp) hS
      obtain ⟨k9, -, -⟩ := of_block (freeM_block hS HRL2.out.1 HRL2.out.2.1 HRL2.out.2.2)
      obtain ⟨k8, -, -⟩ := of_block (freeM_block hS HRL3.out.1 HRL3.out.2.1 HRL3.out.2.2)
      clear hS
      go_wp2
      exact ⟨rfl, rfl, by rw [HS4.out]; exact hS9⟩
    · rfl
    (try simp only [Act.put, List.setIfInBounds_toArray, List.set_cons_succ, List.set_cons_zero])
    apply walkedS_cons
    · intro l9 wS hz hn hS
      rw [HS4.out] at hS
      have hS9 := freeM_other 3 (by decide) (by simp) hS
      obtain ⟨k9, -, -⟩ := of_block (freeM_block hS HRL2.out.1 HRL2.out.2.1 HRL2.out.2.2)
      obtain ⟨k8, -, -⟩ := of_block (freeM_block hS HRL3.out.1 HRL3.out.2.1 HRL3.out.2.2)
      clear hS
      go_wp2
      exact ⟨rfl, rfl, by rw [HS4.out]; exact hS9⟩
    · rfl
    (try simp only [Act.put, List.setIfInBounds_toArray, List.set_cons_succ, List.set_cons_zero])
    apply walkedS_cons
    · intro l9 wS hz hn hS
      rw [HS4.out] at hS
      have hS9 := freeM_other 4 (by decide) (by simp) hS
      obtain ⟨k9, -, -⟩ := of_block (freeM_block hS HRL2.out.1 HRL2.out.2.1 HRL2.out.2.2)
      obtain ⟨k8, -, -⟩ := of_block (freeM_block hS HRL3.out.1 HRL3.out.2.1 HRL3.out.2.2)
      clear hS
      go_wp2
      exact ⟨rfl, rfl, by rw [HS4.out]; exact hS9⟩
    · rfl
    (try simp only [Act.put, List.setIfInBounds_toArray, List.set_cons_succ, List.set_cons_zero])
    apply walkedS_cons
    · intro l9 wS hz hn hS
      rw [HS4.out] at hS
      have hS9 := freeM_other 5 (by decide) (by simp) hS
      obtain ⟨k9, -, -⟩ := of_block (freeM_block hS HRL2.out.1 HRL2.out.2.1 HRL2.out.2.2)
      obtain ⟨k8, -, -⟩ := of_block (freeM_block hS HRL3.out.1 HRL3.out.2.1 HRL3.out.2.2)
      clear hS
      go_wp2
      exact ⟨rfl, rfl, by rw [HS4.out]; exact hS9⟩
    · rfl
    (try simp only [Act.put, List.setIfInBounds_toArray, List.set_cons_succ, List.set_cons_zero])
    apply walkedS_cons
    · intro l9 wS hz hn hS
      rw [HS4.out] at hS
      have hS9 := freeM_other 6 (by decide) (by simp) hS
      obtain ⟨k9, -, -⟩ := of_block (freeM_block hS HRL2.out.1 HRL2.out.2.1 HRL2.out.2.2)
      obtain ⟨k8, -, -⟩ := of_block (freeM_block hS HRL3.out.1 HRL3.out.2.1 HRL3.out.2.2)
      clear hS
      go_wp2
      exact ⟨rfl, rfl, by rw [HS4.out]; exact hS9⟩
    · rfl
    (try simp only [Act.put, List.setIfInBounds_toArray, List.set_cons_succ, List.set_cons_zero])
    apply walkedS_cons
    · intro l9 wS hz hn hS
      rw [HS4.out] at hS
      have hS9 := freeM_other 7 (by decide) (by simp) hS
      obtain ⟨k9, -, -⟩ := of_block (freeM_block hS HRL2.out.1 HRL2.out.2.1 HRL2.out.2.2)
      obtain ⟨k8, -, -⟩ := of_block (freeM_block hS HRL3.out.1 HRL3.out.2.1 HRL3.out.2.2)
      clear hS
      go_wp2
      exact ⟨rfl, rfl, by rw [HS4.out]; exact hS9⟩
    · rfl
    (try simp only [Act.put, List.setIfInBounds_toArray, List.set_cons_succ, List.set_cons_zero])
    apply walkedS_cons
    · intro l9 wS hz hn hS
      rw [HS4.out] at hS
      have hS9 := freeM_other 8 (by decide) (by simp) hS
      obtain ⟨k9, -, -⟩ := of_block (freeM_block hS HRL2.out.1 HRL2.out.2.1 HRL2.out.2.2)
      obtain ⟨k8, -, -⟩ := of_block (freeM_block hS HRL3.out.1 HRL3.out.2.1 HRL3.out.2.2)
      clear hS
      go_wp2
      exact ⟨rfl, rfl, by rw [HS4.out]; exact hS9⟩
    · rfl
    (try simp only [Act.put, List.setIfInBounds_toArray, List.set_cons_succ, List.set_cons_zero])
    apply walkedS_cons
    · intro l9 wS hz hn hS
      rw [HS4.out] at hS
      have hS9 := freeM_other 9 (by decide) (by simp) hS
      obtain ⟨k9, -, -⟩ := of_block (freeM_block hS HRL2.out.1 HRL2.out.2.1 HRL2.out.2.2)
      obtain ⟨k8, -, -⟩ := of_block (freeM_block hS HRL3.out.1 HRL3.out.2.1 HRL3.out.2.2)
      clear hS
      go_wp2
      exact ⟨rfl, rfl, by rw [HS4.out]; exact hS9⟩
    · rfl
    (try simp only [Act.put, List.setIfInBounds_toArray, List.set_cons_succ, List.set_cons_zero])
    apply walkedS_cons
    · intro l9 wS hz hn hS
      rw [HS4.out] at hS
      have hS9 := freeM_other 10 (by decide) (by simp) hS
      obtain ⟨k9, -, -⟩ := of_block (freeM_block hS HRL2.out.1 HRL2.out.2.1 HRL2.out.2.2)
      obtain ⟨k8, -, -⟩ := of_block (freeM_block hS HRL3.out.1 HRL3.out.2.1 HRL3.out.2.2)
      clear hS
      go_wp2
      exact ⟨rfl, rfl, by rw [HS4.out]; exact hS9⟩
    · rfl
    (try simp only [Act.put, List.setIfInBounds_toArray, List.set_cons_succ, List.set_cons_zero])
    apply walkedS_cons
    · intro l9 wS hz hn hS
      rw [HS4.out] at hS
      have hc := HRD.out wS (freeM_before hn hS)
      have hfin := fun y hM ho => freeM_call (y := y) HFD.out hz hS hM ho
      clear hS
      go_wp2_with fail
      (with_reducible refine hc.mono ?_)
      rintro e y ⟨rfl, hM, ho⟩
      have hf := hfin y hM ho
      clear hfin hc hM ho
      go_wp2
      exact ⟨rfl, rfl, by rw [HS4.out]; exact hf⟩
    · rfl
    (try simp only [Act.put, List.setIfInBounds_toArray, List.set_cons_succ, List.set_cons_zero])
    apply walkedS_cons
    · intro l9 wS hz hn hS
      rw [HS4.out] at hS
      have hS9 := freeM_other 12 (by decide) (by simp) hS
      obtain ⟨k9, -, -⟩ := of_block (freeM_block hS HRL2.out.1 HRL2.out.2.1 HRL2.out.2.2)
      obtain ⟨k8, -, -⟩ := of_block (freeM_block hS HRL3.out.1 HRL3.out.2.1 HRL3.out.2.2)
      clear hS
      go_wp2
      exact ⟨rfl, rfl, by rw [HS4.out]; exact hS9⟩
    · rfl
    (try simp only [Act.put, List.setIfInBounds_toArray, List.set_cons_succ, List.set_cons_zero])
    apply walkedS_cons
    · intro l9 wS hz hn hS
      rw [HS4.out] at hS
      have hS9 := freeM_other 13 (by decide) (by simp) hS
      obtain ⟨k9, -, -⟩ := of_block (freeM_block hS HRL2.out.1 HRL2.out.2.1 HRL2.out.2.2)
      obtain ⟨k8, -, -⟩ := of_block (freeM_block hS HRL3.out.1 HRL3.out.2.1 HRL3.out.2.2)
      clear hS
      go_wp2
      exact ⟨rfl, rfl, by rw [HS4.out]; exact hS9⟩
    · rfl
    (try simp only [Act.put, List.setIfInBounds_toArray, List.set_cons_succ, List.set_cons_zero])
    apply walkedS_cons
    · intro l9 wS hz hn hS
      rw [HS4.out] at hS
      have hS9 := freeM_other 14 (by decide) (by simp) hS
      obtain ⟨k9, -, -⟩ := of_block (freeM_block hS HRL2.out.1 HRL2.out.2.1 HRL2.out.2.2)
      obtain ⟨k8, -, -⟩ := of_block (freeM_block hS HRL3.out.1 HRL3.out.2.1 HRL3.out.2.2)
      clear hS
      go_wp2
      exact ⟨rfl, rfl, by rw [HS4.out]; exact hS9⟩
    · rfl
    (try simp only [Act.put, List.setIfInBounds_toArray, List.set_cons_succ, List.set_cons_zero])
    apply walkedS_cons
    · intro l9 wS hz hn hS
      rw [HS4.out] at hS
      have hS9 := freeM_other 15 (by decide) (by simp) hS
      obtain ⟨k9, -, -⟩ := of_block (freeM_block hS HRL2.out.1 HRL2.out.2.1 HRL2.out.2.2)
      obtain ⟨k8, -, -⟩ := of_block (freeM_block hS HRL3.out.1 HRL3.out.2.1 HRL3.out.2.2)
      clear hS
      go_wp2
      exact ⟨rfl, rfl, by rw [HS4.out]; exact hS9⟩
    · rfl
    (try simp only [Act.put, List.setIfInBounds_toArray, List.set_cons_succ, List.set_cons_zero])
    apply walkedS_cons
    · intro l9 wS hz hn hS
      rw [HS4.out] at hS
      have hS9 := freeM_other 16 (by decide) (by simp) hS
      obtain ⟨k9, -, -⟩ := of_block (freeM_block hS HRL2.out.1 HRL2.out.2.1 HRL2.out.2.2)
      obtain ⟨k8, -, -⟩ := of_block (freeM_block hS HRL3.out.1 HRL3.out.2.1 HRL3.out.2.2)
      clear hS
      go_wp2
      exact ⟨rfl, rfl, by rw [HS4.out]; exact hS9⟩
    · rfl
    (try simp only [Act.put, List.setIfInBounds_toArray, List.set_cons_succ, List.set_cons_zero])
    apply walkedS_nil
    intro l9 y4 hz hall hS
    have b11 := hall 11 (by decide)
    rw [HS4.out] at hS
    have hm4 := freeM_behind b11 hS
    have hr4 := freeM_block hS HRL2.out.1 HRL2.out.2.1 HRL2.out.2.2
    have h74 := freeM_block hS HRL4.out.1 HRL4.out.2.1 HRL4.out.2.2
    have ho4 : Only (fun b => ¬ X b ∨ b = rp) x y4 := (only_drew HY.out.2.2.2.2.1).trans (hS.only.mono fun b _ f => .inl (fun h => f (.inl h)))
    have H4 := Lib.hid (And.intro hr4 (And.intro h74 (And.intro hm4 ho4)))
    clear hall b11 hS hm4 hr4 h74 ho4 hz l9 HFD HRL2 HRL3 HRL4 HS4 e1 e2 e3 e4 HRD
    show wpList _ _ _ [] _ _
    cases hok : okM frames AD with
    | true =>
      obtain ⟨rfl, rfl⟩ := HVE.out.1 hok
      have hRO : Hid (ok1N (rawM frames wd) (okM frames) two a = true ∧ raw1N (rawM frames wd) (okM frames) two a = rawM frames wd AD ∧ costN (rawM frames wd) (okM frames) two a = nq + 1) := Lib.hid (by
        have e : ok1N (rawM frames wd) (okM frames) two a = true := by
          unfold ok1N; rw [HB.out.2.2.2.2.2.2.1]; show (decide ((0 : Int) = 0) && okM frames (ofr * 4096 + a % 4096)) = true; rw [HAD.out.1, HAD.out.2.1, HAD.out.2.2, hok]; rfl
        refine ⟨e, ?_, ?_⟩
        · unfold raw1N; rw [if_pos e, HB.out.2.2.2.2.2.2.1]; show rawM frames wd (ofr * 4096 + a % 4096) = _; rw [HAD.out.1, HAD.out.2.1, HAD.out.2.2]
        · unfold costN; rw [if_pos e, HB.out.2.2.2.2.2.2.1])
      generalize rawM frames wd AD = V at *
      obtain ⟨k9, q9, z9⟩ := of_block H4.out.1
      have n3 : (n : Int) < 4 := by have := HB.out.2.2.2.1; have := HB.out.2.2.1; omega
      have hs6 : y4.setCell ⟨rp, 6, none⟩ (.int .i64 ((cq : Int) + 1)) = putB y4 rp (.cells #[.pointer (some ⟨p, 0, none⟩), .int .u64 (two : Nat), .bool on, .int .u64 (root : Nat), .bool sto, .int .i64 (n : Nat), .int .i64 ((cq + 1 : Nat) : Int), .int .i64 0, .int .i64 0, .int .i64 0, .int .u64 ((0 : Nat) : Int), .bool false] 111) := by rw [set_of H4.out.1]; rfl
      have hp6 := putB_same (.cells #[.pointer (some ⟨p, 0, none⟩), .int .u64 (two : Nat), .bool on, .int .u64 (root : Nat), .bool sto, .int .i64 (n : Nat), .int .i64 ((cq + 1 : Nat) : Int), .int .i64 0, .int .i64 0, .int .i64 0, .int .u64 ((0 : Nat) : Int), .bool false] 111) (lt_of_block H4.out.1)
      obtain ⟨k8, q8, z8⟩ := of_block hp6
      have hs7 : (putB y4 rp (.cells #[.pointer (some ⟨p, 0, none⟩), .int .u64 (two : Nat), .bool on, .int .u64 (root : Nat), .bool sto, .int .i64 (n : Nat), .int .i64 ((cq + 1 : Nat) : Int), .int .i64 0, .int .i64 0, .int .i64 0, .int .u64 ((0 : Nat) : Int), .bool false] 111)).setCell ⟨rp, 5, none⟩ (.int .i64 ((n : Int) + 1)) = putB y4 rp (.cells #[.pointer (some ⟨p, 0, none⟩), .int .u64 (two : Nat), .bool on, .int .u64 (root : Nat), .bool sto, .int .i64 ((n + 1 : Nat) : Int), .int .i64 ((cq + 1 : Nat) : Int), .int .i64 0, .int .i64 0, .int .i64 0, .int .u64 ((0 : Nat) : Int), .bool false] 111) := by rw [set_of hp6, putB_putB]; rfl
      have HP := Lib.hid (And.intro (putB_same (.cells #[.pointer (some ⟨p, 0, none⟩), .int .u64 (two : Nat), .bool on, .int .u64 (root : Nat), .bool sto, .int .i64 ((n + 1 : Nat) : Int), .int .i64 ((cq + 1 : Nat) : Int), .int .i64 0, .int .i64 0, .int .i64 0, .int .u64 ((0 : Nat) : Int), .bool false] 111) (lt_of_block H4.out.1)) (And.intro ((Only.refl (fun b => b = rp) y4).putB (.cells #[.pointer (some ⟨p, 0, none⟩), .int .u64 (two : Nat), .bool on, .int .u64 (root : Nat), .bool sto, .int .i64 ((n + 1 : Nat) : Int), .int .i64 ((cq + 1 : Nat) : Int), .int .i64 0, .int .i64 0, .int .i64 0, .int .u64 ((0 : Nat) : Int), .bool false] 111) (fun _ => rfl)) trivial))
      generalize putB y4 rp (.cells #[.pointer (some ⟨p, 0, none⟩), .int .u64 (two : Nat), .bool on, .int .u64 (root : Nat), .bool sto, .int .i64 (n : Nat), .int .i64 ((cq + 1 : Nat) : Int), .int .i64 0, .int .i64 0, .int .i64 0, .int .u64 ((0 : Nat) : Int), .bool false] 111) = Y6 at *
      generalize putB y4 rp (.cells #[.pointer (some ⟨p, 0, none⟩), .int .u64 (two : Nat), .bool on, .int .u64 (root : Nat), .bool sto, .int .i64 ((n + 1 : Nat) : Int), .int .i64 ((cq + 1 : Nat) : Int), .int .i64 0, .int .i64 0, .int .i64 0, .int .u64 ((0 : Nat) : Int), .bool false] 111) = Y7 at *
      clear hp6 hok
      go_wp2
      go_ret2
      refine ⟨by rw [hRO.out.1, hRO.out.2.1]; rfl, { mem := ?_, blk := ?_, own := HS.out.own, lt := HS.out.lt, old := HS.out.old }, H4.out.2.2.2.trans (HP.out.2.1.mono fun b _ e => .inr e)⟩
      · refine memW_le (memW_more (memW_only H4.out.2.2.1 HP.out.2.1 (fun b hb e => by subst e; exact hb (.inl HS.out.own))) (fun b hb => .inl (.inl hb))) ?_
        rw [List.length_append, HB.out.2.2.1]; simp; omega
      · rw [level_snoc, costs_snoc, kept_snoc, HB.out.1, HB.out.2.2.2.2.2.2.2.2, HB.out.2.2.1, hRO.out.1, hRO.out.2.2, ← Nat.add_assoc, HCQ.out]
        exact HP.out.1
    | false =>
      have hE := HVE.out.2 hok
      have hEb : (E == 0) = false := by simp [hE]
      have hRO : Hid (ok1N (rawM frames wd) (okM frames) two a = false ∧ raw1N (rawM frames wd) (okM frames) two a = 0 ∧ costN (rawM frames wd) (okM frames) two a = nq + 0 ∧ faultN (rawM frames wd) (okM frames) two a (n : Int) sto = ⟨2, 4, (n : Nat), a, sto⟩) := Lib.hid (by
        have e : ok1N (rawM frames wd) (okM frames) two a = false := by
          unfold ok1N; rw [HB.out.2.2.2.2.2.2.1]; show (decide ((0 : Int) = 0) && okM frames (ofr * 4096 + a % 4096)) = false; rw [HAD.out.1, HAD.out.2.1, HAD.out.2.2, hok]; rfl
        refine ⟨e, ?_, ?_, ?_⟩
        · unfold raw1N; rw [if_neg (by rw [e]; simp)]
        · unfold costN; rw [if_neg (by rw [e]; simp), HB.out.2.2.2.2.2.2.1]
        · unfold faultN; rw [HB.out.2.2.2.2.2.2.1]; exact if_pos rfl)
      clear hok hE
      go_upto_region 10 with (refine wpList_store_whole rfl 67 _ _ rfl b7 [Value.int .i64 2, .int .i64 4, .int .i64 0, .int .u64 (a : Nat), .bool false] rfl rfl 67 _ H4.out.2.1 (by kernel_rfl) rfl (by intro v hv; simp only [List.mem_cons, List.not_mem_nil, or_false] at hv; rcases hv with rfl | rfl | rfl | rfl | rfl <;> rfl) ?_)
      have w1 := putB_same (.cells #[Value.int .i64 2, .int .i64 4, .int .i64 0, .int .u64 (a : Nat), .bool false] 67) (lt_of_block H4.out.2.1)
      have w2 := (putB_other (.cells #[Value.int .i64 2, .int .i64 4, .int .i64 0, .int .u64 (a : Nat), .bool false] 67) (show b7 ≠ rp by have := HY.out; omega)).trans H4.out.1
      have w3 := memW_only H4.out.2.2.1 ((Only.refl (fun b => b = b7) y4).putB (.cells #[Value.int .i64 2, .int .i64 4, .int .i64 0, .int .u64 (a : Nat), .bool false] 67) (fun _ => rfl)) (fun b hb e => by subst e; exact hb (.inr HY.out.2.2.2.2.2.2.2.1))
      have w4 := H4.out.2.2.2.putB (b := b7) (.cells #[Value.int .i64 2, .int .i64 4, .int .i64 0, .int .u64 (a : Nat), .bool false] 67) (fun e => by have := HY.out.2.2.2.2.2.2.2.1; omega)
      generalize putB y4 b7 (.cells #[Value.int .i64 2, .int .i64 4, .int .i64 0, .int .u64 (a : Nat), .bool false] 67) = Y5 at *
      have HW := Lib.hid (And.intro w2 (And.intro w1 (And.intro w3 w4)))
      clear w1 w2 w3 w4 hEb
      obtain ⟨W1, hW1⟩ : ∃ W1, W1 = putB Y5.drew b7 (.cells #[Value.int .i64 2, .int .i64 4, .int .i64 (n : Nat), .int .u64 (a : Nat), .bool false] 67) := ⟨_, rfl⟩
      obtain ⟨W2, hW2⟩ : ∃ W2, W2 = putB Y5.drew b7 (.cells #[Value.int .i64 2, .int .i64 4, .int .i64 0, .int .u64 (a : Nat), .bool sto] 67) := ⟨_, rfl⟩
      obtain ⟨W12, hW12⟩ : ∃ W12, W12 = putB Y5.drew b7 (.cells #[Value.int .i64 2, .int .i64 4, .int .i64 (n : Nat), .int .u64 (a : Nat), .bool sto] 67) := ⟨_, rfl⟩
      have r0 : Y5.drew.heap[b7]? = some (.cells #[Value.int .i64 2, .int .i64 4, .int .i64 0, .int .u64 (a : Nat), .bool false] 67) := HW.out.2.1
      have r1 : W1.heap[b7]? = some (.cells #[Value.int .i64 2, .int .i64 4, .int .i64 (n : Nat), .int .u64 (a : Nat), .bool false] 67) := by rw [hW1]; exact putB_same _ (lt_of_block r0)
      have r2 : W2.heap[b7]? = some (.cells #[Value.int .i64 2, .int .i64 4, .int .i64 0, .int .u64 (a : Nat), .bool sto] 67) := by rw [hW2]; exact putB_same _ (lt_of_block r0)
      have r12 : W12.heap[b7]? = some (.cells #[Value.int .i64 2, .int .i64 4, .int .i64 (n : Nat), .int .u64 (a : Nat), .bool sto] 67) := by rw [hW12]; exact putB_same _ (lt_of_block r0)
      have HFS : Hid (Y5.drew.setCell ⟨b7, 2, none⟩ (.int .i64 (n : Nat)) = W1 ∧ W2.setCell ⟨b7, 2, none⟩ (.int .i64 (n : Nat)) = W12 ∧ Y5.drew.setCell ⟨b7, 4, none⟩ (.bool sto) = W2 ∧ W1.setCell ⟨b7, 4, none⟩ (.bool sto) = W12) :=
        Lib.hid ⟨by rw [set_of r0, hW1]; rfl, by rw [set_of r2, hW2, hW12, putB_putB]; rfl, by rw [set_of r0, hW2]; rfl, by rw [set_of r1, hW1, hW12, putB_putB]; rfl⟩
      have HFO : Hid (True ∧ Y5.drew.heap[b7]? = some (.cells #[Value.int .i64 2, .int .i64 4, .int .i64 0, .int .u64 (a : Nat), .bool false] 67) ∧ W1.heap[b7]? = some (.cells #[Value.int .i64 2, .int .i64 4, .int .i64 (n : Nat), .int .u64 (a : Nat), .bool false] 67) ∧ W2.heap[b7]? = some (.cells #[Value.int .i64 2, .int .i64 4, .int .i64 0, .int .u64 (a : Nat), .bool sto] 67) ∧ W12.heap[b7]? = some (.cells #[Value.int .i64 2, .int .i64 4, .int .i64 (n : Nat), .int .u64 (a : Nat), .bool sto] 67)) := Lib.hid ⟨trivial, r0, r1, r2, r12⟩
      have g0 : Y5.drew.heap[rp]? = _ := HW.out.1
      have hne7 : b7 ≠ rp := by have := HY.out; omega
      have HFR : Hid (Y5.drew.heap[rp]? = some (.cells #[.pointer (some ⟨p, 0, none⟩), .int .u64 (two : Nat), .bool on, .int .u64 (root : Nat), .bool sto, .int .i64 (n : Nat), .int .i64 (cq : Nat), .int .i64 0, .int .i64 0, .int .i64 0, .int .u64 ((0 : Nat) : Int), .bool false] 111) ∧ W1.heap[rp]? = some (.cells #[.pointer (some ⟨p, 0, none⟩), .int .u64 (two : Nat), .bool on, .int .u64 (root : Nat), .bool sto, .int .i64 (n : Nat), .int .i64 (cq : Nat), .int .i64 0, .int .i64 0, .int .i64 0, .int .u64 ((0 : Nat) : Int), .bool false] 111) ∧ W2.heap[rp]? = some (.cells #[.pointer (some ⟨p, 0, none⟩), .int .u64 (two : Nat), .bool on, .int .u64 (root : Nat), .bool sto, .int .i64 (n : Nat), .int .i64 (cq : Nat), .int .i64 0, .int .i64 0, .int .i64 0, .int .u64 ((0 : Nat) : Int), .bool false] 111) ∧ W12.heap[rp]? = some (.cells #[.pointer (some ⟨p, 0, none⟩), .int .u64 (two : Nat), .bool on, .int .u64 (root : Nat), .bool sto, .int .i64 (n : Nat), .int .i64 (cq : Nat), .int .i64 0, .int .i64 0, .int .i64 0, .int .u64 ((0 : Nat) : Int), .bool false] 111)) := Lib.hid ⟨g0, by rw [hW1]; exact (putB_other _ hne7).trans g0, by rw [hW2]; exact (putB_other _ hne7).trans g0, by rw [hW12]; exact (putB_other _ hne7).trans g0⟩
      have hoW : Only (fun b => b = b7) Y5 W12 := by rw [hW12]; exact (only_drew (Only.refl _ _)).putB _ (fun _ => rfl)
      have hmW := memW_only HW.out.2.2.1 hoW (fun b hb e => by subst e; exact hb (.inr HY.out.2.2.2.2.2.2.2.1))
      have hoWx : Only (fun b => ¬ X b ∨ b = rp) x W12 := by rw [hW12]; exact (only_drew HW.out.2.2.2).putB _ (fun e => by have := HY.out.2.2.2.2.2.2.2.1; omega)
      have HE := Lib.hid (And.intro hmW hoWx)
      clear hW1 hW2 hW12 r0 r1 r2 r12 g0 hne7 hoW hmW hoWx
      refine wp_region_staged (S := FourS 9 11 Y5.drew W1 W2 W12) 12 (by kernel_rfl) (by kernel_rfl) (by kernel_rfl) (by decide) (four_start _) ?_
      apply walkedS_cons
      · intro l9 wS hz hn hS
        have hS9 := four_other 0 (by decide) (by decide) hS
        obtain ⟨k9, -, -⟩ := of_block (four_fact (Φ := fun y => y.heap[rp]? = _) hS HFR.out.1 HFR.out.2.1 HFR.out.2.2.1 HFR.out.2.2.2)
        clear hS
        go_wp2
        exact ⟨rfl, rfl, hS9⟩
      · rfl
      (try simp only [Act.put, List.setIfInBounds_toArray, List.set_cons_succ, List.set_cons_zero])
      apply walkedS_cons
      · intro l9 wS hz hn hS
        have hS9 := four_other 1 (by decide) (by decide) hS
        obtain ⟨k9, -, -⟩ := of_block (four_fact (Φ := fun y => y.heap[rp]? = _) hS HFR.out.1 HFR.out.2.1 HFR.out.2.2.1 HFR.out.2.2.2)
        clear hS
        go_wp2
        exact ⟨rfl, rfl, hS9⟩
      · rfl
      (try simp only [Act.put, List.setIfInBounds_toArray, List.set_cons_succ, List.set_cons_zero])
      apply walkedS_cons
      · intro l9 wS hz hn hS
        have hS9 := four_other 2 (by decide) (by decide) hS
        obtain ⟨k9, -, -⟩ := of_block (four_fact (Φ := fun y => y.heap[rp]? = _) hS HFR.out.1 HFR.out.2.1 HFR.out.2.2.1 HFR.out.2.2.2)
        clear hS
        go_wp2
        exact ⟨rfl, rfl, hS9⟩
      · rfl
      (try simp only [Act.put, List.setIfInBounds_toArray, List.set_cons_succ, List.set_cons_zero])
      apply walkedS_cons
      · intro l9 wS hz hn hS
        have hS9 := four_other 3 (by decide) (by decide) hS
        obtain ⟨k9, -, -⟩ := of_block (four_fact (Φ := fun y => y.heap[rp]? = _) hS HFR.out.1 HFR.out.2.1 HFR.out.2.2.1 HFR.out.2.2.2)
        clear hS
        go_wp2
        exact ⟨rfl, rfl, hS9⟩
      · rfl
      (try simp only [Act.put, List.setIfInBounds_toArray, List.set_cons_succ, List.set_cons_zero])
      apply walkedS_cons
      · intro l9 wS hz hn hS
        have hS9 := four_other 4 (by decide) (by decide) hS
        obtain ⟨k9, -, -⟩ := of_block (four_fact (Φ := fun y => y.heap[rp]? = _) hS HFR.out.1 HFR.out.2.1 HFR.out.2.2.1 HFR.out.2.2.2)
        clear hS
        go_wp2
        exact ⟨rfl, rfl, hS9⟩
      · rfl
      (try simp only [Act.put, List.setIfInBounds_toArray, List.set_cons_succ, List.set_cons_zero])
      apply walkedS_cons
      · intro l9 wS hz hn hS
        have hS9 := four_other 5 (by decide) (by decide) hS
        obtain ⟨k9, -, -⟩ := of_block (four_fact (Φ := fun y => y.heap[rp]? = _) hS HFR.out.1 HFR.out.2.1 HFR.out.2.2.1 HFR.out.2.2.2)
        clear hS
        go_wp2
        exact ⟨rfl, rfl, hS9⟩
      · rfl
      (try simp only [Act.put, List.setIfInBounds_toArray, List.set_cons_succ, List.set_cons_zero])
      apply walkedS_cons
      · intro l9 wS hz hn hS
        have hS9 := four_other 6 (by decide) (by decide) hS
        obtain ⟨k9, -, -⟩ := of_block (four_fact (Φ := fun y => y.heap[rp]? = _) hS HFR.out.1 HFR.out.2.1 HFR.out.2.2.1 HFR.out.2.2.2)
        clear hS
        go_wp2
        exact ⟨rfl, rfl, hS9⟩
      · rfl
      (try simp only [Act.put, List.setIfInBounds_toArray, List.set_cons_succ, List.set_cons_zero])
      apply walkedS_cons
      · intro l9 wS hz hn hS
        have hS9 := four_other 7 (by decide) (by decide) hS
        obtain ⟨k9, -, -⟩ := of_block (four_fact (Φ := fun y => y.heap[rp]? = _) hS HFR.out.1 HFR.out.2.1 HFR.out.2.2.1 HFR.out.2.2.2)
        clear hS
        go_wp2
        exact ⟨rfl, rfl, hS9⟩
      · rfl
      (try simp only [Act.put, List.setIfInBounds_toArray, List.set_cons_succ, List.set_cons_zero])
      apply walkedS_cons
      · intro l9 wS hz hn hS
        have hS9 := four_other 8 (by decide) (by decide) hS
        obtain ⟨k9, -, -⟩ := of_block (four_fact (Φ := fun y => y.heap[rp]? = _) hS HFR.out.1 HFR.out.2.1 HFR.out.2.2.1 HFR.out.2.2.2)
        clear hS
        go_wp2
        exact ⟨rfl, rfl, hS9⟩
      · rfl
      (try simp only [Act.put, List.setIfInBounds_toArray, List.set_cons_succ, List.set_cons_zero])
      apply walkedS_cons
      · intro l9 wS hz hn hS
        have hb : ∀ i, wS.cell? ⟨b7, i, none⟩ = wS.cell? ⟨b7, i, none⟩ := fun _ => rfl
        clear hb
        rcases four_first hz (by decide) (by decide) hn hS with ⟨rfl, hd⟩ | ⟨rfl, hd⟩
        · obtain ⟨k9, q9, z9⟩ := of_block HFO.out.2.1
          have hset := HFS.out.1
          clear hS
          go_wp2
          exact ⟨rfl, rfl, hd⟩
        · obtain ⟨k9, q9, z9⟩ := of_block HFO.out.2.2.2.1
          have hset := HFS.out.2.1
          clear hS
          go_wp2
          exact ⟨rfl, rfl, hd⟩
      · rfl
      (try simp only [Act.put, List.setIfInBounds_toArray, List.set_cons_succ, List.set_cons_zero])
      apply walkedS_cons
      · intro l9 wS hz hn hS
        have hS9 := four_other 10 (by decide) (by decide) hS
        obtain ⟨k9, -, -⟩ := of_block (four_fact (Φ := fun y => y.heap[rp]? = _) hS HFR.out.1 HFR.out.2.1 HFR.out.2.2.1 HFR.out.2.2.2)
        clear hS
        go_wp2
        exact ⟨rfl, rfl, hS9⟩
      · rfl
      (try simp only [Act.put, List.setIfInBounds_toArray, List.set_cons_succ, List.set_cons_zero])
      apply walkedS_cons
      · intro l9 wS hz hn hS
        rcases four_second hz (by decide) (by decide) hn hS with ⟨rfl, hd⟩ | ⟨rfl, hd⟩
        · obtain ⟨k9, q9, z9⟩ := of_block HFO.out.2.1
          have hset := HFS.out.2.2.1
          clear hS
          go_wp2
          exact ⟨rfl, rfl, hd⟩
        · obtain ⟨k9, q9, z9⟩ := of_block HFO.out.2.2.1
          have hset := HFS.out.2.2.2
          clear hS
          go_wp2
          exact ⟨rfl, rfl, hd⟩
      · rfl
      (try simp only [Act.put, List.setIfInBounds_toArray, List.set_cons_succ, List.set_cons_zero])
      apply walkedS_nil
      intro l9 wS hz hall hS
      obtain rfl := four_all (hall 9 (by decide)) (hall 11 (by decide)) hS
      clear hS hall hz l9
      show wpList _ _ _ [] _ _
      obtain ⟨k9, q9, z9⟩ := of_block HFO.out.2.2.2.2
      go_wp2_with (refine wpList_store_at rfl 67 _ _ rfl rp 7 [Value.int .i64 2, .int .i64 4, .int .i64 (n : Nat), .int .u64 (a : Nat), .bool sto] rfl rfl 111 _ HFR.out.2.2.2 (by kernel_rfl) (Nat.le_of_eq rfl) (by intro v hv; simp only [List.mem_cons, List.not_mem_nil, or_false] at hv; rcases hv with rfl | rfl | rfl | rfl | rfl <;> rfl) ?_)
      go_ret2
      have hb9 := putB_same (.cells (rdC p two on root sto (n : Nat) (cq : Nat) ⟨2, 4, (n : Nat), a, sto⟩) 111) (lt_of_block HFR.out.2.2.2)
      refine ⟨by rw [hRO.out.1, hRO.out.2.1]; rfl, { mem := ?_, blk := ?_, own := HS.out.own, lt := HS.out.lt, old := HS.out.old }, HE.out.2.putB _ (fun _ => .inr rfl)⟩
      · refine memW_le (memW_more (memW_only HE.out.1 ((Only.refl (fun b => b = rp) _).putB _ (fun _ => rfl)) (fun b hb e => by subst e; exact hb (.inl HS.out.own))) (fun b hb => .inl (.inl hb))) ?_
        rw [List.length_append, HB.out.2.2.1]; simp; omega
      · rw [level_snoc, costs_snoc, kept_snoc, HB.out.1, HB.out.2.2.2.2.2.2.2.2, HB.out.2.2.1, hRO.out.2.2.1, hRO.out.2.2.2, hRO.out.1]
        simp only [Bool.false_eq_true, if_false, Nat.add_zero]
        rw [HCQ.out]
        exact hb9
  · have hfb : (fk == 0) = false := by simp [hfk]
    have hRO : Hid (ok1N (rawM frames wd) (okM frames) two a = false ∧ raw1N (rawM frames wd) (okM frames) two a = 0 ∧ costN (rawM frames wd) (okM frames) two a = nq + 0 ∧ faultN (rawM frames wd) (okM frames) two a (n : Int) sto = ⟨fst, fk, (n : Nat), fad, sto⟩) := Lib.hid (by
      have e : ok1N (rawM frames wd) (okM frames) two a = false := by
        unfold ok1N; rw [HB.out.2.2.2.2.2.2.1]; show (decide (fk = 0) && _) = false; rw [decide_eq_false hfk]; rfl
      refine ⟨e, ?_, ?_, ?_⟩
      · unfold raw1N; rw [if_neg (by rw [e]; simp)]
      · unfold costN; rw [if_neg (by rw [e]; simp), HB.out.2.2.2.2.2.2.1]
      · unfold faultN; rw [HB.out.2.2.2.2.2.2.1]; exact if_neg hfk)
    have w3 := memW_le HY.out.2.2.2.1 (show N + 5 * n + 4 ≤ N + 5 * n + 5 by omega)
    have HW := Lib.hid (And.intro HY.out.1 (And.intro HY.out.2.2.1 (And.intro w3 HY.out.2.2.2.2.1)))
    clear hfk w3
    go_upto_region 10 with (fail)
    clear kr qr zr k7 q7 hset hcqi hfb
    obtain ⟨W1, hW1⟩ : ∃ W1, W1 = putB Y1.drew b7 (.cells #[Value.int .i64 fst, .int .i64 fk, .int .i64 (n : Nat), .int .u64 (fad : Nat), .bool fsto] 67) := ⟨_, rfl⟩
    obtain ⟨W2, hW2⟩ : ∃ W2, W2 = putB Y1.drew b7 (.cells #[Value.int .i64 fst, .int .i64 fk, .int .i64 flv, .int .u64 (fad : Nat), .bool sto] 67) := ⟨_, rfl⟩
    obtain ⟨W12, hW12⟩ : ∃ W12, W12 = putB Y1.drew b7 (.cells #[Value.int .i64 fst, .int .i64 fk, .int .i64 (n : Nat), .int .u64 (fad : Nat), .bool sto] 67) := ⟨_, rfl⟩
    have r0 : Y1.drew.heap[b7]? = some (.cells #[Value.int .i64 fst, .int .i64 fk, .int .i64 flv, .int .u64 (fad : Nat), .bool fsto] 67) := HW.out.2.1
    have r1 : W1.heap[b7]? = some (.cells #[Value.int .i64 fst, .int .i64 fk, .int .i64 (n : Nat), .int .u64 (fad : Nat), .bool fsto] 67) := by rw [hW1]; exact putB_same _ (lt_of_block r0)
    have r2 : W2.heap[b7]? = some (.cells #[Value.int .i64 fst, .int .i64 fk, .int .i64 flv, .int .u64 (fad : Nat), .bool sto] 67) := by rw [hW2]; exact putB_same _ (lt_of_block r0)
    have r12 : W12.heap[b7]? = some (.cells #[Value.int .i64 fst, .int .i64 fk, .int .i64 (n : Nat), .int .u64 (fad : Nat), .bool sto] 67) := by rw [hW12]; exact putB_same _ (lt_of_block r0)
    have HFS : Hid (Y1.drew.setCell ⟨b7, 2, none⟩ (.int .i64 (n : Nat)) = W1 ∧ W2.setCell ⟨b7, 2, none⟩ (.int .i64 (n : Nat)) = W12 ∧ Y1.drew.setCell ⟨b7, 4, none⟩ (.bool sto) = W2 ∧ W1.setCell ⟨b7, 4, none⟩ (.bool sto) = W12) :=
      Lib.hid ⟨by rw [set_of r0, hW1]; rfl, by rw [set_of r2, hW2, hW12, putB_putB]; rfl, by rw [set_of r0, hW2]; rfl, by rw [set_of r1, hW1, hW12, putB_putB]; rfl⟩
    have HFO : Hid (True ∧ Y1.drew.heap[b7]? = some (.cells #[Value.int .i64 fst, .int .i64 fk, .int .i64 flv, .int .u64 (fad : Nat), .bool fsto] 67) ∧ W1.heap[b7]? = some (.cells #[Value.int .i64 fst, .int .i64 fk, .int .i64 (n : Nat), .int .u64 (fad : Nat), .bool fsto] 67) ∧ W2.heap[b7]? = some (.cells #[Value.int .i64 fst, .int .i64 fk, .int .i64 flv, .int .u64 (fad : Nat), .bool sto] 67) ∧ W12.heap[b7]? = some (.cells #[Value.int .i64 fst, .int .i64 fk, .int .i64 (n : Nat), .int .u64 (fad : Nat), .bool sto] 67)) := Lib.hid ⟨trivial, r0, r1, r2, r12⟩
    have g0 : Y1.drew.heap[rp]? = _ := HW.out.1
    have hne7 : b7 ≠ rp := by have := HY.out; omega
    have HFR : Hid (Y1.drew.heap[rp]? = some (.cells #[.pointer (some ⟨p, 0, none⟩), .int .u64 (two : Nat), .bool on, .int .u64 (root : Nat), .bool sto, .int .i64 (n : Nat), .int .i64 (cq : Nat), .int .i64 0, .int .i64 0, .int .i64 0, .int .u64 ((0 : Nat) : Int), .bool false] 111) ∧ W1.heap[rp]? = some (.cells #[.pointer (some ⟨p, 0, none⟩), .int .u64 (two : Nat), .bool on, .int .u64 (root : Nat), .bool sto, .int .i64 (n : Nat), .int .i64 (cq : Nat), .int .i64 0, .int .i64 0, .int .i64 0, .int .u64 ((0 : Nat) : Int), .bool false] 111) ∧ W2.heap[rp]? = some (.cells #[.pointer (some ⟨p, 0, none⟩), .int .u64 (two : Nat), .bool on, .int .u64 (root : Nat), .bool sto, .int .i64 (n : Nat), .int .i64 (cq : Nat), .int .i64 0, .int .i64 0, .int .i64 0, .int .u64 ((0 : Nat) : Int), .bool false] 111) ∧ W12.heap[rp]? = some (.cells #[.pointer (some ⟨p, 0, none⟩), .int .u64 (two : Nat), .bool on, .int .u64 (root : Nat), .bool sto, .int .i64 (n : Nat), .int .i64 (cq : Nat), .int .i64 0, .int .i64 0, .int .i64 0, .int .u64 ((0 : Nat) : Int), .bool false] 111)) := Lib.hid ⟨g0, by rw [hW1]; exact (putB_other _ hne7).trans g0, by rw [hW2]; exact (putB_other _ hne7).trans g0, by rw [hW12]; exact (putB_other _ hne7).trans g0⟩
    have hoW : Only (fun b => b = b7) Y1 W12 := by rw [hW12]; exact (only_drew (Only.refl _ _)).putB _ (fun _ => rfl)
    have hmW := memW_only HW.out.2.2.1 hoW (fun b hb e => by subst e; exact hb (.inr HY.out.2.2.2.2.2.2.2.1))
    have hoWx : Only (fun b => ¬ X b ∨ b = rp) x W12 := by rw [hW12]; exact (only_drew HW.out.2.2.2).putB _ (fun e => by have := HY.out.2.2.2.2.2.2.2.1; omega)
    have HE := Lib.hid (And.intro hmW hoWx)
    clear hW1 hW2 hW12 r0 r1 r2 r12 g0 hne7 hoW hmW hoWx
    refine wp_region_staged (S := FourS 9 11 Y1.drew W1 W2 W12) 12 (by kernel_rfl) (by kernel_rfl) (by kernel_rfl) (by decide) (four_start _) ?_
    apply walkedS_cons
    · intro l9 wS hz hn hS
      have hS9 := four_other 0 (by decide) (by decide) hS
      obtain ⟨k9, -, -⟩ := of_block (four_fact (Φ := fun y => y.heap[rp]? = _) hS HFR.out.1 HFR.out.2.1 HFR.out.2.2.1 HFR.out.2.2.2)
      clear hS
      go_wp2
      exact ⟨rfl, rfl, hS9⟩
    · rfl
    (try simp only [Act.put, List.setIfInBounds_toArray, List.set_cons_succ, List.set_cons_zero])
    apply walkedS_cons
    · intro l9 wS hz hn hS
      have hS9 := four_other 1 (by decide) (by decide) hS
      obtain ⟨k9, -, -⟩ := of_block (four_fact (Φ := fun y => y.heap[rp]? = _) hS HFR.out.1 HFR.out.2.1 HFR.out.2.2.1 HFR.out.2.2.2)
      clear hS
      go_wp2
      exact ⟨rfl, rfl, hS9⟩
    · rfl
    (try simp only [Act.put, List.setIfInBounds_toArray, List.set_cons_succ, List.set_cons_zero])
    apply walkedS_cons
    · intro l9 wS hz hn hS
      have hS9 := four_other 2 (by decide) (by decide) hS
      obtain ⟨k9, -, -⟩ := of_block (four_fact (Φ := fun y => y.heap[rp]? = _) hS HFR.out.1 HFR.out.2.1 HFR.out.2.2.1 HFR.out.2.2.2)
      clear hS
      go_wp2
      exact ⟨rfl, rfl, hS9⟩
    · rfl
    (try simp only [Act.put, List.setIfInBounds_toArray, List.set_cons_succ, List.set_cons_zero])
    apply walkedS_cons
    · intro l9 wS hz hn hS
      have hS9 := four_other 3 (by decide) (by decide) hS
      obtain ⟨k9, -, -⟩ := of_block (four_fact (Φ := fun y => y.heap[rp]? = _) hS HFR.out.1 HFR.out.2.1 HFR.out.2.2.1 HFR.out.2.2.2)
      clear hS
      go_wp2
      exact ⟨rfl, rfl, hS9⟩
    · rfl
    (try simp only [Act.put, List.setIfInBounds_toArray, List.set_cons_succ, List.set_cons_zero])
    apply walkedS_cons
    · intro l9 wS hz hn hS
      have hS9 := four_other 4 (by decide) (by decide) hS
      obtain ⟨k9, -, -⟩ := of_block (four_fact (Φ := fun y => y.heap[rp]? = _) hS HFR.out.1 HFR.out.2.1 HFR.out.2.2.1 HFR.out.2.2.2)
      clear hS
      go_wp2
      exact ⟨rfl, rfl, hS9⟩
    · rfl
    (try simp only [Act.put, List.setIfInBounds_toArray, List.set_cons_succ, List.set_cons_zero])
    apply walkedS_cons
    · intro l9 wS hz hn hS
      have hS9 := four_other 5 (by decide) (by decide) hS
      obtain ⟨k9, -, -⟩ := of_block (four_fact (Φ := fun y => y.heap[rp]? = _) hS HFR.out.1 HFR.out.2.1 HFR.out.2.2.1 HFR.out.2.2.2)
      clear hS
      go_wp2
      exact ⟨rfl, rfl, hS9⟩
    · rfl
    (try simp only [Act.put, List.setIfInBounds_toArray, List.set_cons_succ, List.set_cons_zero])
    apply walkedS_cons
    · intro l9 wS hz hn hS
      have hS9 := four_other 6 (by decide) (by decide) hS
      obtain ⟨k9, -, -⟩ := of_block (four_fact (Φ := fun y => y.heap[rp]? = _) hS HFR.out.1 HFR.out.2.1 HFR.out.2.2.1 HFR.out.2.2.2)
      clear hS
      go_wp2
      exact ⟨rfl, rfl, hS9⟩
    · rfl
    (try simp only [Act.put, List.setIfInBounds_toArray, List.set_cons_succ, List.set_cons_zero])
    apply walkedS_cons
    · intro l9 wS hz hn hS
      have hS9 := four_other 7 (by decide) (by decide) hS
      obtain ⟨k9, -, -⟩ := of_block (four_fact (Φ := fun y => y.heap[rp]? = _) hS HFR.out.1 HFR.out.2.1 HFR.out.2.2.1 HFR.out.2.2.2)
      clear hS
      go_wp2
      exact ⟨rfl, rfl, hS9⟩
    · rfl
    (try simp only [Act.put, List.setIfInBounds_toArray, List.set_cons_succ, List.set_cons_zero])
    apply walkedS_cons
    · intro l9 wS hz hn hS
      have hS9 := four_other 8 (by decide) (by decide) hS
      obtain ⟨k9, -, -⟩ := of_block (four_fact (Φ := fun y => y.heap[rp]? = _) hS HFR.out.1 HFR.out.2.1 HFR.out.2.2.1 HFR.out.2.2.2)
      clear hS
      go_wp2
      exact ⟨rfl, rfl, hS9⟩
    · rfl
    (try simp only [Act.put, List.setIfInBounds_toArray, List.set_cons_succ, List.set_cons_zero])
    apply walkedS_cons
    · intro l9 wS hz hn hS
      have hb : ∀ i, wS.cell? ⟨b7, i, none⟩ = wS.cell? ⟨b7, i, none⟩ := fun _ => rfl
      clear hb
      rcases four_first hz (by decide) (by decide) hn hS with ⟨rfl, hd⟩ | ⟨rfl, hd⟩
      · obtain ⟨k9, q9, z9⟩ := of_block HFO.out.2.1
        have hset := HFS.out.1
        clear hS
        go_wp2
        exact ⟨rfl, rfl, hd⟩
      · obtain ⟨k9, q9, z9⟩ := of_block HFO.out.2.2.2.1
        have hset := HFS.out.2.1
        clear hS
        go_wp2
        exact ⟨rfl, rfl, hd⟩
    · rfl
    (try simp only [Act.put, List.setIfInBounds_toArray, List.set_cons_succ, List.set_cons_zero])
    apply walkedS_cons
    · intro l9 wS hz hn hS
      have hS9 := four_other 10 (by decide) (by decide) hS
      obtain ⟨k9, -, -⟩ := of_block (four_fact (Φ := fun y => y.heap[rp]? = _) hS HFR.out.1 HFR.out.2.1 HFR.out.2.2.1 HFR.out.2.2.2)
      clear hS
      go_wp2
      exact ⟨rfl, rfl, hS9⟩
    · rfl
    (try simp only [Act.put, List.setIfInBounds_toArray, List.set_cons_succ, List.set_cons_zero])
    apply walkedS_cons
    · intro l9 wS hz hn hS
      rcases four_second hz (by decide) (by decide) hn hS with ⟨rfl, hd⟩ | ⟨rfl, hd⟩
      · obtain ⟨k9, q9, z9⟩ := of_block HFO.out.2.1
        have hset := HFS.out.2.2.1
        clear hS
        go_wp2
        exact ⟨rfl, rfl, hd⟩
      · obtain ⟨k9, q9, z9⟩ := of_block HFO.out.2.2.1
        have hset := HFS.out.2.2.2
        clear hS
        go_wp2
        exact ⟨rfl, rfl, hd⟩
    · rfl
    (try simp only [Act.put, List.setIfInBounds_toArray, List.set_cons_succ, List.set_cons_zero])
    apply walkedS_nil
    intro l9 wS hz hall hS
    obtain rfl := four_all (hall 9 (by decide)) (hall 11 (by decide)) hS
    clear hS hall hz l9
    show wpList _ _ _ [] _ _
    obtain ⟨k9, q9, z9⟩ := of_block HFO.out.2.2.2.2
    go_wp2_with (refine wpList_store_at rfl 67 _ _ rfl rp 7 [Value.int .i64 fst, .int .i64 fk, .int .i64 (n : Nat), .int .u64 (fad : Nat), .bool sto] rfl rfl 111 _ HFR.out.2.2.2 (by kernel_rfl) (Nat.le_of_eq rfl) (by intro v hv; simp only [List.mem_cons, List.not_mem_nil, or_false] at hv; rcases hv with rfl | rfl | rfl | rfl | rfl <;> rfl) ?_)
    go_ret2
    have hb9 := putB_same (.cells (rdC p two on root sto (n : Nat) (cq : Nat) ⟨fst, fk, (n : Nat), fad, sto⟩) 111) (lt_of_block HFR.out.2.2.2)
    refine ⟨by rw [hRO.out.1, hRO.out.2.1]; rfl, { mem := ?_, blk := ?_, own := HS.out.own, lt := HS.out.lt, old := HS.out.old }, HE.out.2.putB _ (fun _ => .inr rfl)⟩
    · refine memW_le (memW_more (memW_only HE.out.1 ((Only.refl (fun b => b = rp) _).putB _ (fun _ => rfl)) (fun b hb e => by subst e; exact hb (.inl HS.out.own))) (fun b hb => .inl (.inl hb))) ?_
      rw [List.length_append, HB.out.2.2.1]; simp; omega
    · rw [level_snoc, costs_snoc, kept_snoc, HB.out.1, HB.out.2.2.2.2.2.2.2.2, HB.out.2.2.1, hRO.out.2.2.1, hRO.out.2.2.2, hRO.out.1]
      simp only [Bool.false_eq_true, if_false, Nat.add_zero]
      rw [HCQ.out]
      exact hb9
end
end Go.Proofs.Ytlbehhbicmmdoaa
namespace Go.Proofs.Ytlbehhbicmmdoaa
set_option linter.unusedVariables false
set_option linter.unusedSimpArgs false
open Go.RowKit
theorem idx_off (P x l : Nat) (hl : l ≤ 3) (hx : x < 4096) : indexN (P * 4096 + x) l = indexN (P * 4096) l := by
  rw [← indexN_div _ l hl, ← indexN_div _ l hl]
  obtain rfl | rfl | rfl | rfl : l = 0 ∨ l = 1 ∨ l = 2 ∨ l = 3 := by omega
  · show (P * 4096 + x) / 549755813888 % 512 = P * 4096 / 549755813888 % 512; omega
  · show (P * 4096 + x) / 1073741824 % 512 = P * 4096 / 1073741824 % 512; omega
  · show (P * 4096 + x) / 2097152 % 512 = P * 4096 / 2097152 % 512; omega
  · show (P * 4096 + x) / 4096 % 512 = P * 4096 / 4096 % 512; omega
theorem at_off (root P x l : Nat) (hl : l ≤ 3) (hx : x < 4096) : atN root (P * 4096 + x) l = atN root (P * 4096) l := by
  unfold atN; rw [idx_off P x l hl hx]
section
variable {raw raw' : Nat → Nat} {ok : Nat → Bool} {st : Int} {P x two : Nat}
theorem walk_off (hx : x < 4096) : ∀ (n lv root : Nat), n + lv = 4 → walkN raw ok st (P * 4096 + x) n lv root = walkN raw ok st (P * 4096) n lv root := by
  intro n
  induction n with
  | zero => intro lv root _; simp only [walkN]
  | succ n ih =>
    intro lv root h
    have h9 := fun t => ih (lv + 1) t (by omega)
    unfold walkN
    simp only [at_off root P x lv (by omega) hx, h9]
theorem ask_off (hx : x < 4096) : ∀ (n lv root : Nat), n + lv = 4 → askN raw ok st (P * 4096 + x) n lv root = askN raw ok st (P * 4096) n lv root := by
  intro n
  induction n with
  | zero => intro lv root _; simp only [askN]
  | succ n ih =>
    intro lv root h
    have h9 := fun t => ih (lv + 1) t (by omega)
    unfold askN
    simp only [at_off root P x lv (by omega) hx, h9]
theorem second_walk {ipa : Nat} {access : Int} (h : walkN raw ok 2 ipa 4 0 two = walkN raw' ok 2 ipa 4 0 two) : secondN raw ok two ipa access = secondN raw' ok two ipa access := by
  unfold secondN; rw [h]
end
def stB (a b : St) : Bool := a.lv == b.lv && a.at_ == b.at_ && a.raw == b.raw && a.d.k == b.d.k && a.d.a == b.d.a && a.d.r == b.d.r && a.d.w == b.d.w && a.d.x == b.d.x && a.d.s == b.d.s
theorem stB_eq {a b : St} (h : stB a b = true) : a = b := by
  obtain ⟨a1, a2, a3, ⟨a4, a5, a6, a7, a8, a9⟩⟩ := a
  obtain ⟨b1, b2, b3, ⟨b4, b5, b6, b7, b8, b9⟩⟩ := b
  simp only [stB, Bool.and_eq_true, beq_iff_eq] at h
  obtain ⟨⟨⟨⟨⟨⟨⟨⟨rfl, rfl⟩, rfl⟩, rfl⟩, rfl⟩, rfl⟩, rfl⟩, rfl⟩, rfl⟩ := h
  rfl
def stsB : List St → List St → Bool
  | [], [] => true
  | a :: l, b :: m => stB a b && stsB l m
  | _, _ => false
theorem stsB_eq : ∀ {l m : List St}, stsB l m = true → l = m
  | [], [], _ => rfl
  | a :: l, b :: m, h => by
    simp only [stsB, Bool.and_eq_true] at h
    rw [stB_eq h.1, stsB_eq h.2]
  | [], b :: m, h => by simp [stsB] at h
  | a :: l, [], h => by simp [stsB] at h
def natsB : List Nat → List Nat → Bool
  | [], [] => true
  | a :: l, b :: m => a == b && natsB l m
  | _, _ => false
theorem natsB_eq : ∀ {l m : List Nat}, natsB l m = true → l = m
  | [], [], _ => rfl
  | a :: l, b :: m, h => by
    simp only [natsB, Bool.and_eq_true, beq_iff_eq] at h
    rw [h.1, natsB_eq h.2]
  | [], b :: m, h => by simp [natsB] at h
  | a :: l, [], h => by simp [natsB] at h
def f5B (a b : F5) : Bool := a.st == b.st && a.k == b.k && a.lv == b.lv && a.ad == b.ad && a.store == b.store
theorem f5B_eq {a b : F5} (h : f5B a b = true) : a = b := by
  obtain ⟨a1, a2, a3, a4, a5⟩ := a
  obtain ⟨b1, b2, b3, b4, b5⟩ := b
  simp only [f5B, Bool.and_eq_true, beq_iff_eq] at h
  obtain ⟨⟨⟨⟨rfl, rfl⟩, rfl⟩, rfl⟩, rfl⟩ := h
  rfl
/-- The words behind the first edit; behind the move of the table. -/
def encP : Nat := encW 2 3 3 147456 true false false 0
def wdT1 (lv : Nat) : Nat → Nat := updW (wdC 16) (16384 + 8 * lv) 0
def wdM (lv : Nat) (a : Nat) : Nat := if a / 4096 = frN lv then 0 else if a / 4096 = 36 then wdT1 lv (frN lv * 4096 + a % 4096) else wdT1 lv a
def wdT2 (lv : Nat) : Nat → Nat := updW (wdM lv) (16384 + 8 * lv) encP
def r1 (wd : Nat → Nat) (P : Nat) : List St × Int := walkN (raw1N (rawM 40 wd) (okM 40) 4096) (ok1N (rawM 40 wd) (okM 40) 4096) 1 (P * 4096) 4 0 0
def a1 (wd : Nat → Nat) (P : Nat) : List Nat := askN (raw1N (rawM 40 wd) (okM 40) 4096) (ok1N (rawM 40 wd) (okM 40) 4096) 1 (P * 4096) 4 0 0
def r2 (wd : Nat → Nat) (Q : Nat) : List St × Int := walkN (rawM 40 wd) (okM 40) 2 (Q * 4096) 4 0 4096
def chkA (lv P : Nat) (sto : Bool) : Bool := (r1 (wdT1 lv) P).2 == -1 && f5B (keptN (rawM 40 (wdT1 lv)) (okM 40) 4096 sto (a1 (wdT1 lv) P)) ⟨2, 1, (lv : Int), lv * 4096 + 8 * (if lv = 3 then P else 0), sto⟩
def chkB (lv P : Nat) : Bool :=
  stsB (r1 (wdT2 lv) P).1 (r1 (wdC 16) P).1 && (r1 (wdT2 lv) P).2 == (r1 (wdC 16) P).2 && (r1 (wdC 16) P).2 == 0 && natsB (a1 (wdT2 lv) P) (a1 (wdC 16) P) &&
  costsN (rawM 40 (wdT2 lv)) (okM 40) 4096 (a1 (wdC 16) P) == costsN (rawM 40 (wdC 16)) (okM 40) 4096 (a1 (wdC 16) P) &&
  (lastN (r1 (wdC 16) P).1).lv == 3 && (lastN (r1 (wdC 16) P).1).d.k == 3 && (lastN (r1 (wdC 16) P).1).d.a == (P + 4) * 4096 &&
  stsB (r2 (wdT2 lv) (P + 4)).1 (r2 (wdC 16) (P + 4)).1 && (r2 (wdT2 lv) (P + 4)).2 == (r2 (wdC 16) (P + 4)).2
def allA : Bool := (List.range 4).all fun lv => (List.range 16).all fun P => chkA lv P true && chkA lv P false
def allB' : Bool := (List.range 4).all fun lv => (List.range 16).all fun P => chkB lv P
theorem allA_yes : allA = true := by kernel_rfl
theorem allB_yes : allB' = true := by kernel_rfl
theorem chkA_yes {lv P : Nat} (hl : lv < 4) (hP : P < 16) (sto : Bool) : chkA lv P sto = true := by
  have h := List.all_eq_true.1 (List.all_eq_true.1 allA_yes lv (List.mem_range.2 hl)) P (List.mem_range.2 hP)
  simp only [Bool.and_eq_true] at h
  cases sto
  · exact h.2
  · exact h.1
theorem chkB_yes {lv P : Nat} (hl : lv < 4) (hP : P < 16) : chkB lv P = true := List.all_eq_true.1 (List.all_eq_true.1 allB_yes lv (List.mem_range.2 hl)) P (List.mem_range.2 hP)
/-- Where a page of the tables is not mapped, the fault names it. -/
theorem through_bad {lv P x : Nat} (hl : lv < 4) (hP : P < 16) (hx : x < 4096) (k : Int) :
    (nestN (rawM 40 (wdT1 lv)) (okM 40) 4096 true 0 (P * 4096 + x) k).2.1 = ⟨2, 1, (lv : Int), lv * 4096 + 8 * (if lv = 3 then P else 0), decide (k = 2)⟩ := by
  have hc := chkA_yes hl hP (decide (k = 2))
  simp only [chkA, Bool.and_eq_true, beq_iff_eq] at hc
  unfold nestN
  dsimp only
  rw [walk_off hx 4 0 0 rfl, ask_off hx 4 0 0 rfl, if_neg (by omega), if_neg (by simp), if_neg (by simp)]
  have h1 : (walkN (raw1N (rawM 40 (wdT1 lv)) (okM 40) 4096) (ok1N (rawM 40 (wdT1 lv)) (okM 40) 4096) 1 (P * 4096) 4 0 0).2 = -1 := hc.1
  rw [if_pos h1]
  exact f5B_eq hc.2
/-- Where it is mapped to another frame with the same words, nothing changes. -/
theorem through_same {lv P x : Nat} (hl : lv < 4) (hP : P < 16) (hx : x < 4096) (k : Int) :
    nestN (rawM 40 (wdT2 lv)) (okM 40) 4096 true 0 (P * 4096 + x) k = nestN (rawM 40 (wdC 16)) (okM 40) 4096 true 0 (P * 4096 + x) k := by
  have hc := chkB_yes hl hP
  simp only [chkB, Bool.and_eq_true, beq_iff_eq] at hc
  obtain ⟨⟨⟨⟨⟨⟨⟨⟨⟨c1, c2⟩, c3⟩, c4⟩, c5⟩, c6⟩, c7⟩, c8⟩, c9⟩, c10⟩ := hc
  have e1 : r1 (wdT2 lv) P = r1 (wdC 16) P := Prod.ext (stsB_eq c1) c2
  have e2 : a1 (wdT2 lv) P = a1 (wdC 16) P := natsB_eq c4
  have e3 : r2 (wdT2 lv) (P + 4) = r2 (wdC 16) (P + 4) := Prod.ext (stsB_eq c9) c10
  have ho : outN (P * 4096 + x) (lastN (r1 (wdC 16) P).1).lv (lastN (r1 (wdC 16) P).1).d.k (lastN (r1 (wdC 16) P).1).d.a = (P + 4) * 4096 + x := by
    rw [c6, c7, c8]
    unfold outN
    rw [if_pos (Or.inr rfl), show spanO ((3 : Nat) : Int) = 4096 from rfl]
    omega
  have hs : secondN (rawM 40 (wdT2 lv)) (okM 40) 4096 ((P + 4) * 4096 + x) k = secondN (rawM 40 (wdC 16)) (okM 40) 4096 ((P + 4) * 4096 + x) k := by
    apply second_walk
    rw [walk_off hx 4 0 4096 rfl, walk_off hx 4 0 4096 rfl]
    exact e3
  unfold r1 at e1 ho c3
  unfold a1 at e2 c5
  unfold nestN
  dsimp only
  rw [walk_off hx 4 0 0 rfl, ask_off hx 4 0 0 rfl, walk_off hx 4 0 0 rfl, ask_off hx 4 0 0 rfl, e1, e2, ho, hs, c5]
  rw [if_neg (show ¬ (281474976710656 ≤ P * 4096 + x) by omega), if_neg (show ¬ (281474976710656 ≤ P * 4096 + x) by omega), if_neg (show ¬ (true = false) by simp), if_neg (show ¬ (true = false) by simp), if_neg (show ¬ ((0 : Nat) % 4096 ≠ 0 ∨ 1099511627776 ≤ 0) by simp), if_neg (show ¬ ((0 : Nat) % 4096 ≠ 0 ∨ 1099511627776 ≤ 0) by simp),
    if_neg (show ¬ _ = (-1 : Int) by rw [c3]; decide), if_neg (show ¬ _ = (-1 : Int) by rw [c3]; decide)]
end Go.Proofs.Ytlbehhbicmmdoaa
