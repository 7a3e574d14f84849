/- The statement WalkEnds: its walk. -/
import Derived.Test.YtlbehhbicmmdoaaWalkS
import Derived.Test.YtlbehhbicmmdoaaWalkWay
import Derived.Test.YtlbehhbicmmdoaaBits
namespace Go.Proofs.Ytlbehhbicmmdoaa
set_option linter.unusedVariables false
set_option linter.unusedSimpArgs false
open Go.RowKit

theorem u64_nat (X : Int) : ∃ n : Nat, IntKind.u64.wrap X = (n : Int) ∧ n < 18446744073709551616 := by
  rw [IntKind.wrap_u64]
  exact ⟨(X % 18446744073709551616).toNat, by omega, by omega⟩
theorem xor_word (a b : Int) : ∃ n : Nat, bits .xor .u64 a b = (n : Int) ∧ n < 18446744073709551616 := u64_nat _
theorem less_word (a b : Int) : ∃ n : Nat, bits .andNot .u64 a b = (n : Int) ∧ n < 18446744073709551616 := u64_nat _
/-- A word told by its address. -/
def rawE (salt keep a : Nat) : Nat := (bits .andNot .u64 (bits .xor .u64 (IntKind.u64.wrap ((a : Int) * 11400714819323198485)) (salt : Int)) (keep : Int)).toNat
theorem rawE_eq (salt keep a : Nat) : bits .andNot .u64 (bits .xor .u64 (IntKind.u64.wrap ((a : Int) * 11400714819323198485)) (salt : Int)) (keep : Int) = ((rawE salt keep a : Nat) : Int) := by
  unfold rawE
  obtain ⟨n, h, _⟩ := less_word (bits .xor .u64 (IntKind.u64.wrap ((a : Int) * 11400714819323198485)) (salt : Int)) (keep : Int)
  rw [h]; rfl
theorem rawE_lt (salt keep a : Nat) : rawE salt keep a < 18446744073709551616 := by
  unfold rawE
  obtain ⟨n, h, hl⟩ := less_word (bits .xor .u64 (IntKind.u64.wrap ((a : Int) * 11400714819323198485)) (salt : Int)) (keep : Int)
  rw [h]; exact hl
def okE (salt a : Nat) : Bool := ((a : Int) != (salt : Int))

theorem fn_ends (args : Array Value) (x : World) : (callFunc 26 args).run Try.prog x = .ok (.enter 26 args) x := by kernel_rfl
def EndS (bn bs bk salt keep : Nat) (k : Nat) (x : World) : Prop := Has x [(bn, #[.int .i64 (k : Nat)], 3), (bk, #[.int .u64 (keep : Nat)], 22), (bs, #[.int .u64 (salt : Nat)], 22)]
set_option maxRecDepth 100000 in
theorem ends1_calls (bn bs bk salt keep k a : Nat) (hk : k < 4) (ha : a < 18446744073709551616) (hne : bn ≠ bs) (hne2 : bn ≠ bk) (w : World) (h : EndS bn bs bk salt keep k w) :
    Calls Try.prog 26 #[.int .u64 (a : Nat), .pointer (some ⟨bn, 0, none⟩), .pointer (some ⟨bs, 0, none⟩), .pointer (some ⟨bk, 0, none⟩)] w (fun e y => e = .returned (.tuple #[.int .u64 (rawE salt keep a : Nat), .bool (okE salt a)]) ∧ EndS bn bs bk salt keep (k + 1) y ∧ Only (fun b => b = bn) w y) := by
  obtain ⟨h1, h2, h3, _⟩ := h
  obtain ⟨q1, q2, q3⟩ := of_block h1
  have hs : w.setCell ⟨bn, 0, none⟩ (.int .i64 ((k : Int) + 1)) = putB w bn (.cells #[.int .i64 ((k : Int) + 1)] 3) := by rw [set_of h1]; rfl
  have c1 : (putB w bn (.cells #[.int .i64 ((k : Int) + 1)] 3)).cell? ⟨bs, 0, none⟩ = some (.int .u64 (salt : Nat)) := by rw [putB_cell_other _ _ hne, cell_of h3]; rfl
  have c2 : (putB w bn (.cells #[.int .i64 ((k : Int) + 1)] 3)).cell? ⟨bk, 0, none⟩ = some (.int .u64 (keep : Nat)) := by rw [putB_cell_other _ _ hne2, cell_of h2]; rfl
  have hfin : EndS bn bs bk salt keep (k + 1) (putB w bn (.cells #[.int .i64 ((k : Int) + 1)] 3)) ∧ Only (fun b => b = bn) w (putB w bn (.cells #[.int .i64 ((k : Int) + 1)] 3)) :=
    ⟨⟨putB_same _ q3, by rw [putB_other _ hne2]; exact h2, by rw [putB_other _ hne]; exact h3, trivial⟩, (Only.refl _ _).putB _ (fun _ => rfl)⟩
  generalize putB w bn (.cells #[.int .i64 ((k : Int) + 1)] 3) = W at *
  have HF := Lib.hid hfin
  have hraw := rawE_eq salt keep a
  have hok : ((a : Int) != (salt : Int)) = okE salt a := rfl
  generalize okE salt a = O at *
  generalize rawE salt keep a = R at *
  clear h1 h2 h3 hfin
  go_enter Try.func26, Try.ntmps26
  go_upto_region 2 with (fail)
  refine wp_region_walked (S := Is W.drew) (by kernel_rfl) (by kernel_rfl) rfl ?_
  repeat (apply walked_cons; (first | exact gives_and rfl rfl rfl rfl | exact gives_or rfl rfl rfl rfl | (focus (intro wS hS; cases hS; go_wp2; exact ⟨rfl, rfl, rfl⟩; done)) | (focus (apply gives_guard; (focus (first | exact wanted_yes rfl rfl rfl | exact wanted_no rfl rfl rfl | exact wanted_yes2 rfl rfl rfl | exact wanted_no2 rfl rfl rfl)); (focus (intro hx9; (try simp only [Bool.not_eq_true', Bool.and_eq_true, Bool.not_not] at hx9); (try obtain ⟨hx9, hy9⟩ := hx9); (try subst hy9); (try subst hx9); (first | exact gives_and rfl rfl rfl rfl | exact gives_or rfl rfl rfl rfl | (intro wS hS; cases hS; go_wp2; exact ⟨rfl, rfl, rfl⟩; done))))))); rfl; (try simp only [Act.put, List.setIfInBounds_toArray, List.set_cons_succ, List.set_cons_zero]))
  apply walked_nil
  intro wS hS
  cases hS
  go_wp2
  go_ret2
  exact ⟨rfl, ⟨HF.out.1.1, HF.out.1.2.1, HF.out.1.2.2.1, trivial⟩, HF.out.2.drew⟩
theorem ends_reader (B bn bs bk salt keep : Nat) (hn : bn < B) (hb : bs < B) (hc : bk < B) (hne : bn ≠ bs) (hne2 : bn ≠ bk) : Reader 26 #[.pointer (some ⟨bn, 0, none⟩), .pointer (some ⟨bs, 0, none⟩), .pointer (some ⟨bk, 0, none⟩)] (fun b => b = bn) (EndS bn bs bk salt keep) (rawE salt keep) (okE salt) B :=
  { own := fun b h => by omega
    fn := fn_ends
    word := rawE_lt salt keep
    keep := fun k x y h ho => has_only ho (fun z hz => by simp only [List.mem_cons, List.not_mem_nil, or_false] at hz; rcases hz with rfl | rfl | rfl <;> simp only <;> omega) h
    call := fun k a x hk ha hS => ends1_calls bn bs bk salt keep k a hk ha hne hne2 x hS }

theorem tabN_succ {root : Nat} {L : List St} {k : Nat} {s : St} (h : L[k]? = some s) : tabN root L (k + 1) = s.d.a := by simp [tabN, h]
theorem index_bits (addr k : Nat) (hk : k ≤ 3) (haddr : addr < 18446744073709551616) : bits .and .u64 (((addr / 2 ^ (39 - 9 * k) : Nat) : Int)) 511 = ((indexN addr k : Nat) : Int) := by
  have hle := Nat.div_le_self addr (2 ^ (39 - 9 * k))
  have h1 := bits_and_u64_nat (addr / 2 ^ (39 - 9 * k)) 511 (by omega) (by decide)
  rw [show (511 : Int) = ((511 : Nat) : Int) from rfl, h1]
  have h2 : addr / 2 ^ (39 - 9 * k) &&& 511 = indexN addr k := by
    unfold indexN fieldN
    rw [show 12 + 9 * (3 - k) = 39 - 9 * k by omega]
    exact Nat.and_two_pow_sub_one_eq_mod _ 9
  rw [h2]
theorem at_wrap (T addr k : Nat) : IntKind.u64.wrap ((T : Int) + ((indexN addr k : Nat) : Int) * 8) = ((atN T addr k : Nat) : Int) := by
  rw [Int.mul_comm]; exact atN_wrap T addr k

set_option maxHeartbeats 8000000 in
set_option maxRecDepth 100000 in
theorem walkEnds_walk (st : Int) (_ : (Lit.int .i64 st).wf = true) (ri : Int) (hr0 : (Lit.int .u64 ri).wf = true) (ai : Int) (ha0 : (Lit.int .u64 ai).wf = true) (si : Int) (hs0 : (Lit.int .u64 si).wf = true) (ki : Int) (hk0 : (Lit.int .u64 ki).wf = true) (w : World) :
    Calls Try.prog 5 #[.int .i64 st, .int .u64 ri, .int .u64 ai, .int .u64 si, .int .u64 ki] w (RetB w (.bool true)) := by
  obtain ⟨root, rfl, hroot⟩ := wf_u64 hr0
  obtain ⟨addr, rfl, haddr⟩ := wf_u64 ha0
  obtain ⟨salt, rfl, hsalt⟩ := wf_u64 hs0
  obtain ⟨keep, rfl, hkeep⟩ := wf_u64 hk0
  obtain ⟨S0, hm1, hS0⟩ : ∃ S0 : Int, bits .and .i64 st 1 = S0 ∧ (S0 = 0 ∨ S0 = 1) := ⟨st % 2, i64_mask1 st, by omega⟩
  have hb1 : 0 ≤ S0 := by omega
  have hb2 : S0 ≤ 1 := by omega
  have HS0 := Lib.hid hS0
  clear hr0 ha0 hs0 hk0 hS0
  go_enter Try.func5, Try.ntmps5
  go_upto_region 3 with (fail)
  have hH := holds_new #[.int .i64 0] 3 (holds_new #[.int .u64 (keep : Nat)] 22 (holds_new #[.int .u64 (salt : Nat)] 22 (holds_nil w)))
  have hz1 : (w.alloc (.cells #[.int .u64 (salt : Nat)] 22)).heap.size = w.heap.size + 1 := World.size_alloc _ _
  have hz2 : ((w.alloc (.cells #[.int .u64 (salt : Nat)] 22)).alloc (.cells #[.int .u64 (keep : Nat)] 22)).heap.size = w.heap.size + 1 + 1 := by simp
  rw [hz2, hz1] at hH
  have hsz : (((w.alloc (.cells #[.int .u64 (salt : Nat)] 22)).alloc (.cells #[.int .u64 (keep : Nat)] 22)).alloc (.cells #[.int .i64 0] 3)).heap.size = w.heap.size + 3 := by simp
  generalize ((w.alloc (.cells #[.int .u64 (salt : Nat)] 22)).alloc (.cells #[.int .u64 (keep : Nat)] 22)).alloc (.cells #[.int .i64 0] 3) = W at *
  have hlt : w.heap.size < W.heap.size ∧ w.heap.size + 1 < W.heap.size ∧ w.heap.size + 1 + 1 < W.heap.size := by omega
  clear hz1 hz2 hsz
  have hc := walk_calls (1 + S0) (by have := HS0.out; omega) root addr hroot haddr 26 #[.pointer (some ⟨w.heap.size + 1 + 1, 0, none⟩), .pointer (some ⟨w.heap.size, 0, none⟩), .pointer (some ⟨w.heap.size + 1, 0, none⟩)] _ _ _ _ W
    (ends_reader _ (w.heap.size + 1 + 1) w.heap.size (w.heap.size + 1) salt keep hlt.2.2 hlt.1 hlt.2.1 (by omega) (by omega)) ⟨hH.2.1, hH.2.2.1, hH.2.2.2.1, trivial⟩
  have hok := walk_ok (rawE salt keep) (okE salt) (1 + S0) addr 4 0 root rfl (by decide)
  generalize walkN (rawE salt keep) (okE salt) (1 + S0) addr 4 0 root = r at *
  obtain ⟨L, K⟩ := r
  have HH := Lib.hid hH
  have HOK := Lib.hid hok
  clear hH hlt hok
  have hN : ∃ bn, bn = w.heap.size + 1 + 1 := ⟨_, rfl⟩
  obtain ⟨bn, hN⟩ := hN
  have hbn : w.heap.size ≤ bn := by omega
  have HBN := Lib.hid hbn
  rw [← hN] at hc ⊢
  have HN := Lib.hid hN
  clear hN hbn
  go_wp2_with fail
  refine hc.mono ?_
  rintro e x1 ⟨v, rfl, hown, hS, hO1⟩
  have hown : x1.ownsRow W.heap.size 52 9 v L.length (stCells L) := hown
  have hS : EndS bn w.heap.size (w.heap.size + 1) salt keep (asksN (L, K)) x1 := hS
  obtain ⟨ad, c, rfl, hc1, hc2, -, had⟩ := own_value hown
  have hcap : c ≤ 9223372036854775807 := hc2
  have hO : Old w x1 := old_step HH.out.1 hO1 (fun b e => by rw [e]; exact HBN.out)
  obtain ⟨n, hn⟩ : ∃ n, L.length = n := ⟨_, rfl⟩
  obtain ⟨na, hna⟩ : ∃ na, asksN (L, K) = na := ⟨_, rfl⟩
  have hl := HOK.out.len
  have hst := HOK.out.stop
  have hso := HOK.out.some_
  simp only at hl hst hso
  have hkb : ∃ B : Bool, (K == -1) = B ∧ decide (n < na) = B ∧ na ≤ 4 ∧ n ≤ na ∧ na ≤ n + 1 := by
    unfold asksN at hna
    simp only at hna
    by_cases h : K = -1
    · rw [if_pos h] at hna
      have := hst h
      exact ⟨true, by simp [h], by simp; omega, by omega, by omega, by omega⟩
    · rw [if_neg h] at hna
      exact ⟨false, by simp [h], by simp; omega, by omega, by omega, by omega⟩
  obtain ⟨B, hKB, hnB, i1, i2, i3⟩ := hkb
  rw [hna] at hS
  rw [hn] at hown had hl ⊢
  have j1 : (na : Int) ≤ 4 := by omega
  have j2 : (n : Int) ≤ na := by omega
  have j3 : (na : Int) ≤ n + 1 := by omega
  have jn : n ≤ 4 := hl
  have d1 : decide ((4 : Int) < (na : Int)) = false := by simp; omega
  have d2 : decide (na < n) = false := by simp; omega
  have d3 : decide ((n : Int) < (na : Int) - 1) = false := by simp; omega
  have cN : x1.cell? ⟨bn, 0, none⟩ = some (.int .i64 (na : Nat)) := by rw [cell_of hS.1]; rfl
  have HO := Lib.hid hO
  have HOwn := Lib.hid hown
  have HAd := Lib.hid had
  have HNn := Lib.hid hn
  have HC := Lib.hid hcap
  clear hc hown hS hO1 hO hna had hc2 hst hso hl i1 i2 i3 hn
  go_upto_region 7 with (fail)
  clear hKB hnB cN d1 d2 d3
  go_wp2
  go_loop [15, 16] (fun tb i => ∃ k : Nat, k ≤ n ∧ i = .int .i64 k ∧ tb = .int .u64 (tabN root L k : Nat)) (fun _ i => n - (intOf i).toNat)
  case atStart => exact ⟨0, by omega, rfl, rfl⟩
  case round =>
  obtain ⟨k, hk, rfl, rfl⟩ := hrel
  by_cases hkn : k < n
  case pos =>
    obtain ⟨g, rfl⟩ := HAd.out (by omega)
    obtain ⟨s, hs⟩ : ∃ s, L[k]? = some s := ⟨_, List.getElem?_eq_getElem (by rw [HNn.out]; exact hkn)⟩
    obtain ⟨f1, f2, f3, f4⟩ := way_at HOK.out.way hs
    rw [Nat.zero_add] at f1 f2
    have f5 := tabN_succ (root := root) hs
    have hnx : Hid (tabN root L (k + 1) = s.d.a) := Lib.hid f5
    have hk4 : k < 4 := by omega
    have hcell : ∀ (c : Nat) (v : Value), s.cells[c]? = some v → x1.cell? ⟨g, k * 9 + c, none⟩ = some v := fun c v hv => own_cell HOwn.out rfl _ (stCells_get L k s c v hs hv)
    have hib := index_bits addr k (by omega) haddr
    have haw := at_wrap (tabN root L k) addr k
    have hil := indexN_lt addr k
    rw [HNn.out] at f3
    rw [← f2] at haw
    have c0 := hcell 0 _ rfl
    have c1 := hcell 1 _ rfl
    have c3 := hcell 3 _ rfl
    have c4 := hcell 4 _ rfl
    rw [f1] at c0
    generalize s.at_ = A at *
    generalize s.d.a = DA at *
    generalize s.d.k = DK at *
    generalize tabN root L k = T at *
    generalize indexN addr k = IX at *
    have HF3 := Lib.hid f3
    clear f1 f2 f3 f4 f5 hcell hs
    by_cases hnext : k + 1 < n
    · have hdk := HF3.out hnext
      subst hdk
      obtain rfl | rfl | rfl : k = 0 ∨ k = 1 ∨ k = 2 := by omega
      · have c0 : x1.cell? ⟨g, 0, none⟩ = some (.int .i64 0) := c0
        have c1 : x1.cell? ⟨g, 1, none⟩ = some (.int .u64 (A : Nat)) := c1
        have c3 : x1.cell? ⟨g, 3, none⟩ = some (.int .i64 _) := c3
        have c4 : x1.cell? ⟨g, 4, none⟩ = some (.int .u64 (DA : Nat)) := c4
        have hib : bits .and .u64 ((addr : Int) / 549755813888) 511 = ((IX : Nat) : Int) := hib
        go_wp2
        go_round
        case rel => exact ⟨1, by omega, rfl, congrArg (fun z : Nat => Value.int .u64 (z : Int)) hnx.out.symm⟩
        case measure => first | (simp [intOf]; done) | ((simp [intOf]) <;> omega)
      · have c0 : x1.cell? ⟨g, 9, none⟩ = some (.int .i64 1) := c0
        have c1 : x1.cell? ⟨g, 10, none⟩ = some (.int .u64 (A : Nat)) := c1
        have c3 : x1.cell? ⟨g, 12, none⟩ = some (.int .i64 _) := c3
        have c4 : x1.cell? ⟨g, 13, none⟩ = some (.int .u64 (DA : Nat)) := c4
        have hib : bits .and .u64 ((addr : Int) / 1073741824) 511 = ((IX : Nat) : Int) := hib
        go_wp2
        go_round
        case rel => exact ⟨2, by omega, rfl, congrArg (fun z : Nat => Value.int .u64 (z : Int)) hnx.out.symm⟩
        case measure => first | (simp [intOf]; done) | ((simp [intOf]) <;> omega)
      · have c0 : x1.cell? ⟨g, 18, none⟩ = some (.int .i64 2) := c0
        have c1 : x1.cell? ⟨g, 19, none⟩ = some (.int .u64 (A : Nat)) := c1
        have c3 : x1.cell? ⟨g, 21, none⟩ = some (.int .i64 _) := c3
        have c4 : x1.cell? ⟨g, 22, none⟩ = some (.int .u64 (DA : Nat)) := c4
        have hib : bits .and .u64 ((addr : Int) / 2097152) 511 = ((IX : Nat) : Int) := hib
        go_wp2
        go_round
        case rel => exact ⟨3, by omega, rfl, congrArg (fun z : Nat => Value.int .u64 (z : Int)) hnx.out.symm⟩
        case measure => first | (simp [intOf]; done) | ((simp [intOf]) <;> omega)
    · obtain ⟨rfl, rfl⟩ | ⟨rfl, rfl⟩ | ⟨rfl, rfl⟩ | ⟨rfl, rfl⟩ : (k = 0 ∧ n = 1) ∨ (k = 1 ∧ n = 2) ∨ (k = 2 ∧ n = 3) ∨ (k = 3 ∧ n = 4) := by omega
      · have c0 : x1.cell? ⟨g, 0, none⟩ = some (.int .i64 0) := c0
        have c1 : x1.cell? ⟨g, 1, none⟩ = some (.int .u64 (A : Nat)) := c1
        have c3 : x1.cell? ⟨g, 3, none⟩ = some (.int .i64 _) := c3
        have c4 : x1.cell? ⟨g, 4, none⟩ = some (.int .u64 (DA : Nat)) := c4
        have hib : bits .and .u64 ((addr : Int) / 549755813888) 511 = ((IX : Nat) : Int) := hib
        go_wp2
        go_round
        case rel => exact ⟨1, by omega, rfl, congrArg (fun z : Nat => Value.int .u64 (z : Int)) hnx.out.symm⟩
        case measure => first | (simp [intOf]; done) | ((simp [intOf]) <;> omega)
      · have c0 : x1.cell? ⟨g, 9, none⟩ = some (.int .i64 1) := c0
        have c1 : x1.cell? ⟨g, 10, none⟩ = some (.int .u64 (A : Nat)) := c1
        have c3 : x1.cell? ⟨g, 12, none⟩ = some (.int .i64 _) := c3
        have c4 : x1.cell? ⟨g, 13, none⟩ = some (.int .u64 (DA : Nat)) := c4
        have hib : bits .and .u64 ((addr : Int) / 1073741824) 511 = ((IX : Nat) : Int) := hib
        go_wp2
        go_round
        case rel => exact ⟨2, by omega, rfl, congrArg (fun z : Nat => Value.int .u64 (z : Int)) hnx.out.symm⟩
        case measure => first | (simp [intOf]; done) | ((simp [intOf]) <;> omega)
      · have c0 : x1.cell? ⟨g, 18, none⟩ = some (.int .i64 2) := c0
        have c1 : x1.cell? ⟨g, 19, none⟩ = some (.int .u64 (A : Nat)) := c1
        have c3 : x1.cell? ⟨g, 21, none⟩ = some (.int .i64 _) := c3
        have c4 : x1.cell? ⟨g, 22, none⟩ = some (.int .u64 (DA : Nat)) := c4
        have hib : bits .and .u64 ((addr : Int) / 2097152) 511 = ((IX : Nat) : Int) := hib
        go_wp2
        go_round
        case rel => exact ⟨3, by omega, rfl, congrArg (fun z : Nat => Value.int .u64 (z : Int)) hnx.out.symm⟩
        case measure => first | (simp [intOf]; done) | ((simp [intOf]) <;> omega)
      · have c0 : x1.cell? ⟨g, 27, none⟩ = some (.int .i64 3) := c0
        have c1 : x1.cell? ⟨g, 28, none⟩ = some (.int .u64 (A : Nat)) := c1
        have c3 : x1.cell? ⟨g, 30, none⟩ = some (.int .i64 _) := c3
        have c4 : x1.cell? ⟨g, 31, none⟩ = some (.int .u64 (DA : Nat)) := c4
        have hib : bits .and .u64 ((addr : Int) / 4096) 511 = ((IX : Nat) : Int) := hib
        go_wp2
        go_round
        case rel => exact ⟨4, by omega, rfl, congrArg (fun z : Nat => Value.int .u64 (z : Int)) hnx.out.symm⟩
        case measure => first | (simp [intOf]; done) | ((simp [intOf]) <;> omega)
  case neg =>
  obtain rfl : k = n := by omega
  have ht := told12_calls
  have hleaf := HOK.out.leaf
  have hso := HOK.out.some_
  simp only at hleaf hso
  rw [HNn.out] at hso
  clear hkn hk
  by_cases h0 : k = 0
  · subst h0
    have hK : K = -1 := Classical.byContradiction fun h => by have := hso h; omega
    subst hK
    clear hso hleaf
    go_wp2_with ((go_at_call 22; (with_reducible refine (ht _).mono ?_); rintro e w9 ⟨rfl, hb9⟩))
    go_ret
    exact ⟨rfl, old_then HO.out hb9⟩
  obtain ⟨g, rfl⟩ := HAd.out (by omega)
  obtain ⟨s, hs⟩ : ∃ s, L[k - 1]? = some s := ⟨_, List.getElem?_eq_getElem (by rw [HNn.out]; omega)⟩
  have hlf := hleaf s (by rw [List.getLast?_eq_getElem?, HNn.out]; exact hs)
  have c3 := own_cell HOwn.out rfl _ (stCells_get L (k - 1) s 3 _ hs rfl)
  generalize s.d.k = DK at *
  have hb : ∃ B1 B2 B3, (K == 0) = B1 ∧ (DK == 3) = B2 ∧ (DK == 2) = B3 ∧ B1 = (B2 || B3) := by
    refine ⟨(K == 0), (DK == 3), (DK == 2), rfl, rfl, rfl, ?_⟩
    by_cases h : K = 0
    · rcases hlf.1 h with h2 | h3
      · simp [h, h2]
      · simp [h, h3]
    · have : ¬ (DK = 2 ∨ DK = 3) := fun e => h (hlf.2 e)
      have h2 : DK ≠ 2 := fun e => this (.inl e)
      have h3 : DK ≠ 3 := fun e => this (.inr e)
      rw [beq_eq_false_iff_ne.2 h, beq_eq_false_iff_ne.2 h3, beq_eq_false_iff_ne.2 h2]; rfl
  obtain ⟨B1, B2, B3, e1, e2, e3, rfl⟩ := hb
  clear hleaf hso hlf hs
  have hk4 : k ≤ 4 := jn
  obtain rfl | rfl | rfl | rfl : k = 1 ∨ k = 2 ∨ k = 3 ∨ k = 4 := by omega
  · have c3 : x1.cell? ⟨g, 3, none⟩ = some (.int .i64 DK) := c3
    cases B2 <;> cases B3
    all_goals
      go_wp2_with ((go_at_call 22; (with_reducible refine (ht _).mono ?_); rintro e w9 ⟨rfl, hb9⟩))
      go_ret
      exact ⟨rfl, old_then HO.out hb9⟩
  · have c3 : x1.cell? ⟨g, 12, none⟩ = some (.int .i64 DK) := c3
    cases B2 <;> cases B3
    all_goals
      go_wp2_with ((go_at_call 22; (with_reducible refine (ht _).mono ?_); rintro e w9 ⟨rfl, hb9⟩))
      go_ret
      exact ⟨rfl, old_then HO.out hb9⟩
  · have c3 : x1.cell? ⟨g, 21, none⟩ = some (.int .i64 DK) := c3
    cases B2 <;> cases B3
    all_goals
      go_wp2_with ((go_at_call 22; (with_reducible refine (ht _).mono ?_); rintro e w9 ⟨rfl, hb9⟩))
      go_ret
      exact ⟨rfl, old_then HO.out hb9⟩
  · have c3 : x1.cell? ⟨g, 30, none⟩ = some (.int .i64 DK) := c3
    cases B2 <;> cases B3
    all_goals
      go_wp2_with ((go_at_call 22; (with_reducible refine (ht _).mono ?_); rintro e w9 ⟨rfl, hb9⟩))
      go_ret
      exact ⟨rfl, old_then HO.out hb9⟩
end Go.Proofs.Ytlbehhbicmmdoaa
