/- The statement DiskKeeps: its walk. -/
import Derived.Test.YtbnbchclbblbkaaDiskFails
namespace Go.Proofs.Ytbnbchclbblbkaa
set_option linter.unusedVariables false
set_option linter.unusedSimpArgs false
open Go.RowKit

/-- The page of a slot: all 0 but for its number. -/
def pageK (t k : Nat) : List Nat := zeros4096.set t (k + 1)
theorem pageK_length (t k : Nat) : (pageK t k).length = 4096 := by unfold pageK; rw [List.length_set]; exact zeros4096_length
theorem pageK_at {t : Nat} (k : Nat) (h : t < 4096) : (pageK t k)[t]? = some (k + 1) := List.getElem?_set_self (by rw [zeros4096_length]; exact h)
theorem pageK_other {t u : Nat} (k : Nat) (h : u < 4096) (hne : t ≠ u) : (pageK t k)[u]? = some 0 := by
  unfold pageK
  rw [List.getElem?_set_ne hne]
  exact zeros4096_get u h

/-- The first k slots are written. -/
def pgUpto (t k : Nat) : Int → Option (List Nat) := fun y => if 0 ≤ y ∧ y < k then some (pageK t y.toNat) else none
theorem pgUpto_yes (t : Nat) {k j : Nat} (h : j < k) : pgUpto t k j = some (pageK t j) := by
  unfold pgUpto
  rw [if_pos ⟨by omega, by omega⟩]
  rfl
theorem pgUpto_no (t : Nat) {k j : Nat} (h : k ≤ j) : pgUpto t k j = none := by
  unfold pgUpto
  rw [if_neg (by omega)]
theorem pgUpto_next (t k : Nat) : updP (pgUpto t k) k (some (pageK t k)) = pgUpto t (k + 1) := by
  funext y
  unfold updP pgUpto
  by_cases h : y = k
  · subst h
    rw [if_pos rfl, if_pos ⟨by omega, by omega⟩]
    rfl
  · rw [if_neg h]
    by_cases h2 : 0 ≤ y ∧ y < k
    · rw [if_pos h2, if_pos ⟨h2.1, by omega⟩]
    · rw [if_neg h2, if_neg (by omega)]
theorem pgUpto_same (t : Nat) {k j : Nat} (h : j < k) : updP (pgUpto t k) j (some (pageK t j)) = pgUpto t k := by
  funext y
  unfold updP
  by_cases hy : y = j
  · subst hy
    rw [if_pos rfl, pgUpto_yes t h]
  · rw [if_neg hy]
theorem pgUpto_cnt (t n : Nat) : cntOf (pgUpto t n) n = n := cnt_full _ n fun j hj => by rw [pgUpto_yes t hj]; rfl
theorem updP_again (pg : Int → Option (List Nat)) (k : Int) (a b : Option (List Nat)) : updP (updP pg k a) k b = updP pg k b := by
  funext z
  unfold updP
  split
  · rfl
  · rfl

/-- The disk alone. -/
def KAt (n p : Nat) (w : World) (pg : Int → Option (List Nat)) (F : List Bool) (x : World) : Prop := IsDisk x (Not0 w.heap.size) p n pg F ∧ Old w x
section
variable {n p gp : Nat} {w x y : World} {P : List Nat} {pg pg' : Int → Option (List Nat)} {F F' : List Bool}
theorem kat_old (h : KAt n p w pg F x) (ho : Old x y) : KAt n p w pg F y := ⟨disk_old h.1 ho, old_then h.2 ho⟩
theorem kat_disk (h : KAt n p w pg F x) (hd : IsDisk y (Not0 w.heap.size) p n pg' F') (ho : Only (fun b => ¬ Not0 w.heap.size b) x y) : KAt n p w pg' F' y := ⟨hd, old_not h.2 ho (fun b hb => hb)⟩
theorem kat_X (h : KAt n p w pg F x) : ∀ b, Not0 w.heap.size b → b < x.heap.size := fun b hb => Nat.lt_of_lt_of_le hb h.2.size
theorem kat_of (h : EAt n p gp w P pg F x) : KAt n p w pg F x := ⟨disk_more h.1 (fun b hb => .inl (.inl hb)), h.2.2.1⟩
theorem kat_page (h : KAt n p w pg F x) (hrow : Row y x.heap.size x.heap.size 4096 P) (ho : Old x y) : EAt n p x.heap.size w P pg F y :=
  ⟨disk_old (disk_more h.1 (fun b hb => hb.elim .inl (fun e => .inr (by rw [e]; exact Nat.le_refl _)))) ho, hrow, old_then h.2 ho, h.2.size⟩
theorem eat_set (h : EAt n p gp w P pg F x) (k v : Nat) (hv : v < 256) : EAt n p gp w (P.set k v) pg F (x.setCell ⟨gp, k, none⟩ (.int .u8 v)) := by
  obtain ⟨h1, h2, h3, h4⟩ := h
  have ho : Only (fun b => b = gp) x (x.setCell ⟨gp, k, none⟩ (.int .u8 v)) := (Only.refl _ x).setCell _ _ fun _ => rfl
  exact ⟨disk_only h1 ho (fun b hb e => hb (.inr e)), row_set h2 k v hv, old_set h3 h4 k _, h4⟩
theorem kat_take (h : KAt n p w pg F x) (i : Nat) (hi : i < n) (hfree : pg i = none) (hleast : ∀ j : Nat, j < i → (pg j).isSome = true) :
    Calls Try.prog 35 #[.pointer (some ⟨p, 0, none⟩)] x (fun e y => e = .returned (.tuple #[.int .i64 i, .int .i64 0]) ∧ KAt n p w (updP pg i (some zeros4096)) F y) :=
  (take_ok _ p n pg F i x h.1 (kat_X h) hi hfree hleast).mono fun e y hr => ⟨hr.1, kat_disk h hr.2.1 hr.2.2⟩
theorem kat_full (h : KAt n p w pg F x) (hc : cntOf pg n = n) :
    Calls Try.prog 35 #[.pointer (some ⟨p, 0, none⟩)] x (fun e y => e = .returned (.tuple #[.int .i64 0, .int .i64 12]) ∧ KAt n p w pg F y) :=
  (take_full _ p n pg F x h.1 hc).mono fun e y hr => ⟨hr.1, kat_disk h hr.2.1 hr.2.2⟩
theorem kat_read (h : KAt n p w pg F x) (k : Int) (l : List Nat) (hk : pg k = some l) (hF : F.headD false = false) :
    Calls Try.prog 42 #[.pointer (some ⟨p, 0, none⟩), .int .i64 k] x (fun e y => ∃ g c, e = .returned (.tuple #[.slice (some ⟨g, 0, none⟩) 4096 c, .int .i64 0]) ∧ Row y x.heap.size g c l ∧ KAt n p w pg F.tail y) :=
  (read_ok _ p n pg F k l x h.1 hk hF).mono fun e y ⟨g, c, hr, hrow, hd, ho, _⟩ => ⟨g, c, hr, hrow, kat_disk h hd ho⟩
theorem kat_rfail (h : KAt n p w pg F x) (k : Int) (l : List Nat) (hk : pg k = some l) (hF : F.headD false = true) :
    Calls Try.prog 42 #[.pointer (some ⟨p, 0, none⟩), .int .i64 k] x (fun e y => e = .returned (.tuple #[.slice none 0 0, .int .i64 13]) ∧ KAt n p w pg F.tail y) :=
  (read_fail _ p n pg F k l x h.1 hk hF).mono fun e y hr => ⟨hr.1, kat_disk h hr.2.1 hr.2.2⟩
end

set_option maxHeartbeats 8000000 in
set_option maxRecDepth 100000 in
theorem diskKeeps_calls (n0 : Int) (ad : Option Addr) (fs : List Bool) (c : Nat) (y0 : Int) (w : World) (hB : Bools w ad c fs) :
    Calls Try.prog 11 #[.int .i64 n0, .slice ad fs.length c, .int .i64 y0] w (RetB w (.bool true)) := by
  have hm := i64_mask63 n0
  have b1 : 0 ≤ n0 % 64 := by omega
  have b2 : n0 % 64 < 64 := by omega
  have b5 : 0 ≤ n0 % 64 % 40 := by omega
  have b6 : n0 % 64 % 40 < 40 := by omega
  obtain ⟨n, hN⟩ : ∃ n : Nat, 1 + n0 % 64 % 40 = n := ⟨(1 + n0 % 64 % 40).toNat, by omega⟩
  have hn1 : 1 ≤ n := by omega
  have hn2 : n ≤ 40 := by omega
  have hf63 : fs.length ≤ 9223372036854775807 := Nat.le_trans hB.1 hB.2.1
  obtain ⟨t, ht4, htt⟩ : ∃ t : Nat, t < 4096 ∧ (wrap64 (y0.tmod 4096 + 4096)).tmod 4096 = (t : Int) := slot_of y0 4096 (by decide) (by decide)
  go_enter Try.func11, Try.ntmps11
  go_wp2_with fail
  clear hN hm b1 b2 b5 b6
  (with_reducible refine (diskNew_calls n _ (by omega)).mono ?_)
  rintro e w1 ⟨rfl, hO, hsz, hd⟩
  replace hd := hd (Not0 w.heap.size) (fun b h => h)
  clear hsz
  generalize hpp : w.heap.size + 1 = p at *
  clear hpp
  have hK : KAt n p w (pgUpto t 0) [] w1 := by
    rw [show pgUpto t 0 = (fun _ => none) by funext y; unfold pgUpto; rw [if_neg (by omega)]]
    exact ⟨hd, hO⟩
  clear hd hO
  go_wp2
  go_loopw [9, 10, 11, 12] (fun i _ _ _ wr => ∃ k : Nat, i = .int .i64 k ∧ k ≤ n ∧ KAt n p w (pgUpto t k) [] wr) (fun i _ _ _ _ => (41 - intOf i).toNat)
  case atStart => exact ⟨0, rfl, by omega, hK⟩
  case round =>
  clear hK
  obtain ⟨k, rfl, hk, hK⟩ := hrel
  by_cases hkn : k < n
  · have ht := kat_take hK k hkn (pgUpto_no t (Nat.le_refl _)) (fun j hj => by rw [pgUpto_yes t hj]; rfl)
    have HB := Lib.hid hB
    clear hK hB
    go_wp2_with fail
    (with_reducible refine ht.mono ?_)
    rintro e w2 ⟨rfl, hK⟩
    clear ht
    obtain ⟨w3, hmk, hrow, hO3⟩ := make_page w2
    have hE := kat_page hK hrow hO3
    have ck : w3.cell? ⟨w2.heap.size, t, none⟩ = some (.int .u8 0) := row_cell hrow (zeros4096_get t ht4)
    have fk := row_frozen hrow t
    have hwr : IntKind.u8.wrap ((k : Int) + 1) = (k : Int) + 1 := by rw [IntKind.wrap_u8]; omega
    have hE2 := eat_set hE t (k + 1) (by omega)
    have hsc : w3.setCell ⟨w2.heap.size, t, none⟩ (.int .u8 ((k + 1 : Nat) : Int)) = w3.setCell ⟨w2.heap.size, t, none⟩ (.int .u8 ((k : Int) + 1)) := by rw [Int.natCast_add]; rfl
    rw [hsc] at hE2
    clear hK hrow hO3 hE hsc
    generalize hW : w3.setCell ⟨w2.heap.size, t, none⟩ (.int .u8 ((k : Int) + 1)) = W at *
    have ht := eat_write hE2 k zeros4096 (by unfold updP; rw [if_pos rfl]) rfl (pageK_length t k)
    rw [updP_again, show some (zeros4096.set t (k + 1)) = some (pageK t k) from rfl, pgUpto_next] at ht
    clear hE2
    go_wp2_with fail
    (with_reducible refine ht.mono ?_)
    rintro e w5 ⟨rfl, hE5⟩
    have HK := Lib.hid (kat_of hE5)
    clear ht hE5 hmk ck fk hW
    go_wp2
    go_roundw
    case rel => exact ⟨k + 1, by go_num, by omega, HK.out⟩
    case measure => (simp [intOf]) <;> omega
  · obtain rfl : k = n := by omega
    obtain ⟨fl, hfl⟩ : ∃ fl, fs.take 60 = fl := ⟨_, rfl⟩
    have hB2 := bools_take hB 60
    have hfn : fl.length = min 60 fs.length := by rw [← hfl, List.length_take]
    rw [hfl] at hB2
    have hfi : ∀ j : Nat, j < fl.length → fs[j]? = fl[j]? := fun j hj => by rw [← hfl, List.getElem?_take, if_pos (by omega)]
    clear hfl
    have HK := Lib.hid hK
    have HF := Lib.hid hfi
    have HB := Lib.hid hB
    have HB2 := Lib.hid hB2
    clear hK hfi hB hB2
    go_upto_region 14 with (fail)
    go_cut [13] (fun s13 wx => s13 = .int .i64 fl.length ∧ wx = wr)
    case first =>
      by_cases h60 : fs.length ≤ 60
      · have e : fl.length = fs.length := by omega
        have h60' : (fs.length : Int) ≤ 60 := by omega
        clear hfn
        go_wp2
        go_meet
        case rel => exact ⟨by first | rfl | rw [e], rfl⟩
      · have e : fl.length = 60 := by omega
        have h60' : (60 : Int) < fs.length := by omega
        clear hfn
        go_wp2
        go_meet
        case rel => exact ⟨by first | rfl | rw [e]; rfl, rfl⟩
    case rest =>
    obtain ⟨rfl, rfl⟩ := hcut
    have hf60 : fl.length ≤ 60 := by omega
    have hfle : fl.length ≤ fs.length := by omega
    have hfc : fl.length ≤ c := HB2.out.1
    clear hfn
    have hsl := slice_bools wc ad fl.length c fs.length hfc
    have ht := fail_calls _ p k _ _ ad fl c _ HK.out.1 (kat_X HK.out) (bools_old HB2.out HK.out.2) (by omega)
    go_wp2_with fail
    (with_reducible refine ht.mono ?_)
    rintro e w5 ⟨rfl, hd, ho⟩
    have hK := kat_disk HK.out hd ho
    clear ht hsl hd ho HK
    go_wp2
    go_loopw [14, 15, 16, 17, 18, 19] (fun v _ _ _ _ _ wr => ∃ i : Nat, v = .int .i64 i ∧ i ≤ fl.length ∧ KAt k p w (pgUpto t k) (fl.drop i) wr) (fun v _ _ _ _ _ _ => (61 - intOf v).toNat)
    case atStart => exact ⟨0, rfl, by omega, hK⟩
    case round =>
    clear hK
    obtain ⟨i, rfl, hi, hK⟩ := hrel
    by_cases hil : i < fl.length
    · obtain ⟨b, hb⟩ : ∃ b, fl[i]? = some b := ⟨_, List.getElem?_eq_getElem hil⟩
      obtain ⟨ab, ao, rfl, hab, hcb⟩ := HB.out.2.2.2 i b (by rw [HF.out i hil]; exact hb)
      have cb : wr.cell? ⟨ab, ao + i, none⟩ = some (.bool b) := by rw [(Only.of_below hK.2).cell ab _ hab (fun f => f)]; exact hcb
      have hdr : fl.drop i = b :: fl.drop (i + 1) := by rw [List.drop_eq_getElem_cons hil]; congr 1; rw [List.getElem?_eq_getElem hil] at hb; exact Option.some.inj hb
      have htl : (fl.drop i).tail = fl.drop (i + 1) := by rw [hdr]; rfl
      have hhd : (fl.drop i).headD false = b := by rw [hdr]; rfl
      have hifs : i < fs.length := by omega
      obtain ⟨s, hsm⟩ : ∃ s, i % k = s := ⟨_, rfl⟩
      have hs : s < k := by rw [← hsm]; exact Nat.mod_lt _ (by omega)
      have hs2 : (i : Int) % (k : Int) = (s : Int) := by rw [← hsm]; exact (Int.natCast_emod _ _).symm
      have hs1 : (i : Int).tmod (k : Int) = (s : Int) := by rw [Int.tmod_eq_emod_of_nonneg (Int.natCast_nonneg _)]; exact hs2
      clear hb hdr hsm
      have hwr : IntKind.u8.wrap ((s : Int) + 1) = (s : Int) + 1 := by rw [IntKind.wrap_u8]; omega
      by_cases h3 : i % 3 = 0
      · have h3i : ((i : Int) % 3 == 0) = true := by rw [beq_iff_eq]; omega
        obtain ⟨w3, hmk, hrow, hO3⟩ := make_page wr
        have hE := kat_page hK hrow hO3
        have ck : w3.cell? ⟨wr.heap.size, t, none⟩ = some (.int .u8 0) := row_cell hrow (zeros4096_get t ht4)
        have fk := row_frozen hrow t
        have hE2 := eat_set hE t (s + 1) (by omega)
        have hsc : w3.setCell ⟨wr.heap.size, t, none⟩ (.int .u8 ((s + 1 : Nat) : Int)) = w3.setCell ⟨wr.heap.size, t, none⟩ (.int .u8 ((s : Int) + 1)) := by rw [Int.natCast_add]; rfl
        rw [hsc] at hE2
        clear hK hrow hO3 hE hsc
        generalize hW : w3.setCell ⟨wr.heap.size, t, none⟩ (.int .u8 ((s : Int) + 1)) = W at *
        cases b
        · have ht := eat_write hE2 s (pageK t s) (pgUpto_yes t hs) hhd (pageK_length t s)
          rw [show some (zeros4096.set t (s + 1)) = some (pageK t s) from rfl, pgUpto_same t hs] at ht
          rw [htl] at ht
          clear hE2 hhd htl
          go_wp2_with fail
          (with_reducible refine ht.mono ?_)
          rintro e w8 ⟨rfl, hE8⟩
          have cb8 : w8.cell? ⟨ab, ao + i, none⟩ = some (.bool false) := by rw [(Only.of_below hE8.2.2.1).cell ab _ hab (fun f => f)]; exact hcb
          have HK := Lib.hid (kat_of hE8)
          clear ht hE8 hmk ck fk hW cb
          go_wp2
          go_roundw
          case rel => exact ⟨i + 1, by go_num, by omega, HK.out⟩
          case measure => (simp [intOf]) <;> omega
        · have ht := eat_wfail hE2 s (pageK t s) (pgUpto_yes t hs) hhd
          rw [htl] at ht
          clear hE2 hhd htl
          go_wp2_with fail
          (with_reducible refine ht.mono ?_)
          rintro e w8 ⟨rfl, hE8⟩
          have cb8 : w8.cell? ⟨ab, ao + i, none⟩ = some (.bool true) := by rw [(Only.of_below hE8.2.2.1).cell ab _ hab (fun f => f)]; exact hcb
          have HK := Lib.hid (kat_of hE8)
          clear ht hE8 hmk ck fk hW cb
          go_wp2
          go_roundw
          case rel => exact ⟨i + 1, by go_num, by omega, HK.out⟩
          case measure => (simp [intOf]) <;> omega
      · have h3i : ((i : Int) % 3 == 0) = false := by rw [beq_eq_false_iff_ne]; omega
        cases b
        · have ht := kat_read hK s (pageK t s) (pgUpto_yes t hs) hhd
          rw [htl] at ht
          clear hK hhd htl
          go_wp2_with fail
          (with_reducible refine ht.mono ?_)
          rintro e w8 ⟨gr, cr, rfl, hrowr, hK8⟩
          have cb8 : w8.cell? ⟨ab, ao + i, none⟩ = some (.bool false) := by rw [(Only.of_below hK8.2).cell ab _ hab (fun f => f)]; exact hcb
          have c5 : w8.cell? ⟨gr, t, none⟩ = some (.int .u8 ((s : Int) + 1)) := by have := row_cell hrowr (pageK_at s ht4); rwa [Int.natCast_add] at this
          have hcr := (row_parts hrowr).2.2.2
          clear hrowr
          have HK := Lib.hid hK8
          clear ht hK8 cb
          go_wp2
          go_roundw
          case rel => exact ⟨i + 1, by go_num, by omega, HK.out⟩
          case measure => (simp [intOf]) <;> omega
        · have ht := kat_rfail hK s (pageK t s) (pgUpto_yes t hs) hhd
          rw [htl] at ht
          clear hK hhd htl
          go_wp2_with fail
          (with_reducible refine ht.mono ?_)
          rintro e w8 ⟨rfl, hK8⟩
          have cb8 : w8.cell? ⟨ab, ao + i, none⟩ = some (.bool true) := by rw [(Only.of_below hK8.2).cell ab _ hab (fun f => f)]; exact hcb
          have HK := Lib.hid hK8
          clear ht hK8 cb
          go_wp2
          go_roundw
          case rel => exact ⟨i + 1, by go_num, by omega, HK.out⟩
          case measure => (simp [intOf]) <;> omega
    · obtain rfl : i = fl.length := by omega
      rw [List.drop_eq_nil_of_le (Nat.le_refl _)] at hK
      have HK := Lib.hid hK
      clear hK
      go_wp2
      go_loopw [20, 21, 22] (fun v _ _ wr => ∃ i : Nat, v = .int .i64 i ∧ i ≤ k ∧ KAt k p w (pgUpto t k) [] wr) (fun v _ _ _ => (41 - intOf v).toNat)
      case atStart => exact ⟨0, rfl, by omega, HK.out⟩
      case round =>
      clear HK
      obtain ⟨i, rfl, hik, hK⟩ := hrel
      by_cases hik2 : i < k
      · have ht := kat_read hK i (pageK t i) (pgUpto_yes t hik2) rfl
        clear hK
        go_wp2_with fail
        (with_reducible refine ht.mono ?_)
        rintro e w8 ⟨gr, cr, rfl, hrowr, hK8⟩
        have c5 : w8.cell? ⟨gr, t, none⟩ = some (.int .u8 ((i : Int) + 1)) := by have := row_cell hrowr (pageK_at i ht4); rwa [Int.natCast_add] at this
        obtain ⟨u, hu⟩ : ∃ u, (t + 1) % 4096 = u := ⟨_, rfl⟩
        have hu2 : ((t : Int) + 1) % 4096 = (u : Int) := by omega
        have hu4 : u < 4096 := by omega
        have c6 : w8.cell? ⟨gr, u, none⟩ = some (.int .u8 0) := row_cell hrowr (pageK_other i hu4 (by omega))
        have hcr := (row_parts hrowr).2.2.2
        have hwr : IntKind.u8.wrap ((i : Int) + 1) = (i : Int) + 1 := by rw [IntKind.wrap_u8]; omega
        have HK := Lib.hid hK8
        clear ht hK8 hrowr hu
        go_wp2
        go_roundw
        case rel => exact ⟨i + 1, by go_num, by omega, HK.out⟩
        case measure => (simp [intOf]) <;> omega
      · obtain rfl : i = k := by omega
        have ht := kat_full hK (pgUpto_cnt t i)
        clear hK
        go_wp2_with fail
        (with_reducible refine ht.mono ?_)
        rintro e w8 ⟨rfl, hK8⟩
        clear ht
        go_wp2_with fail
        (with_reducible refine (diskTold_calls _).mono ?_)
        rintro e wB ⟨rfl, hbB⟩
        have hKB := kat_old hK8 hbB
        have ht := left_calls _ p i _ _ wB hKB.1
        rw [List.length_nil] at ht
        clear hK8 hbB
        go_wp2_with fail
        (with_reducible refine ht.mono ?_)
        rintro e wC ⟨rfl, hbC⟩
        have hOC := old_then hKB.2 hbC
        clear hKB hbC ht
        go_wp2
        go_ret
        exact ⟨rfl, hOC⟩
end Go.Proofs.Ytbnbchclbblbkaa
