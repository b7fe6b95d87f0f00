/- Bits of numbers of 32 bits. -/
import Derived.Test.YtpmkohnljngbhaaGreatDoorProg
import Derived.Test.YtpmkohnljngbhaaGreatDoorWalA
import Derived.LoopTactic
import Derived.Outline
import Derived.Deep.QuietTactic
import Derived.BigQuiet
import Derived.Laws.BitsAllLaws
import Derived.Test.YtpmkohnljngbhaaGreatDoorPgB1
import Derived.Deep.RegionHeld3
import Derived.Deep.DrawnRows
import GoSem.PinnedTables
set_option linter.all false
namespace Go.Proofs.YtpmkohnljngbhaaGreatDoor.Pg
set_option linter.unusedVariables false
set_option linter.unusedSimpArgs false
set_option maxRecDepth 1000000
open Go.RowKit Wl
theorem or_2 (a b n : Nat) (ha : a % 2 ^ n = 0) (hb : b < 2 ^ n) (h1 : a < 4294967296) (h2 : b < 4294967296) : bits .or .u32 (a : Int) (b : Int) = ((a + b : Nat) : Int) := by
  rw [u32_or_nat a b h1 h2, nat_join n a b ha hb]
theorem or_4 (a b c d : Nat) (ha : a < 256) (hb : b < 256) (hc : c < 256) (hd : d < 256) : bits .or .u32 (bits .or .u32 (bits .or .u32 ((a : Int) * 16777216) ((b : Int) * 65536)) ((c : Int) * 256)) (d : Int) =
    ((((a * 256 + b) * 256 + c) * 256 + d : Nat) : Int) := by
  have e1 := or_2 (a * 16777216) (b * 65536) 24 (by omega) (by omega) (by omega) (by omega)
  have e2 := or_2 (a * 16777216 + b * 65536) (c * 256) 16 (by omega) (by omega) (by omega) (by omega)
  have e3 := or_2 (a * 16777216 + b * 65536 + c * 256) d 8 (by omega) (by omega) (by omega) (by omega)
  simp only [Int.natCast_mul, Int.natCast_add, Int.cast_ofNat_Int] at e1 e2 e3 ⊢
  rw [e1, e2, e3]; omega
theorem or_four (x0 x1 x2 x3 : UInt8) : bits .or .u32 (bits .or .u32 (bits .or .u32 ((x0.toNat : Int) * 16777216) ((x1.toNat : Int) * 65536)) ((x2.toNat : Int) * 256)) (x3.toNat : Int) =
    ((((x0.toNat * 256 + x1.toNat) * 256 + x2.toNat) * 256 + x3.toNat : Nat) : Int) :=
  or_4 _ _ _ _ x0.toNat_lt x1.toNat_lt x2.toNat_lt x3.toNat_lt
theorem nat_flip (a : Nat) (h : a < 4294967296) : a ^^^ 4294967295 = 4294967295 - a := by
  have h1 : (BitVec.ofNat 32 a ^^^ BitVec.allOnes 32).toNat = (~~~ BitVec.ofNat 32 a).toNat := by rw [BitVec.xor_allOnes]
  simp only [BitVec.toNat_xor, BitVec.toNat_not, BitVec.toNat_ofNat, BitVec.toNat_allOnes] at h1
  rw [Nat.mod_eq_of_lt (by omega)] at h1
  omega
theorem u32_not (a : Nat) (h : a < 4294967296) : bits .xor .u32 IntKind.u32.max (a : Int) = ((4294967295 - a : Nat) : Int) := by
  have := u32_xor_nat 4294967295 a (by omega) h
  rw [Nat.xor_comm, nat_flip a h] at this
  exact this
theorem u32_flip (a : Nat) (h : a < 4294967296) : bits .xor .u32 (a : Int) 4294967295 = ((4294967295 - a : Nat) : Int) := by
  have := u32_xor_nat a 4294967295 h (by omega)
  rw [nat_flip a h] at this
  exact this
end Go.Proofs.YtpmkohnljngbhaaGreatDoor.Pg
/- Walks of page.Sum and of its reference. -/
namespace Go.Proofs.YtpmkohnljngbhaaGreatDoor.Pg
set_option maxRecDepth 1000000
open Go.RowKit Wl

theorem x_byte (c : Nat) (x : UInt8) (h : c < 4294967296) : bits .xor .u32 (c : Int) (x.toNat : Int) = ((c ^^^ x.toNat : Nat) : Int) :=
  u32_xor_nat c x.toNat h (by have := x.toNat_lt; omega)
theorem x_poly (c : Nat) (h : c < 4294967296) : bits .xor .u32 (c : Int) 3988292384 = ((c ^^^ 3988292384 : Nat) : Int) :=
  u32_xor_nat c 3988292384 h (by omega)
theorem and_one (y : Nat) (h : y < 4294967296) : bits .and .u32 (y : Int) 1 = ((y % 2 : Nat) : Int) := by
  rw [← Nat.and_one_is_mod]; exact u32_and_nat y 1 h (by omega)
theorem cs_odd {c : Nat} (h : c % 2 = 1) : cs c = (c / 2) ^^^ 3988292384 := by unfold cs; rw [if_pos h]
theorem cs_even {c : Nat} (h : c % 2 ≠ 1) : cs c = c / 2 := by unfold cs; rw [if_neg h]
theorem Sum_any {A : Option Addr} {n c : Nat} {l : List UInt8} (w : World) (hl : Hid (n = l.length)) (h : Hid (Rd w 1 A n c (bv l))) :
    Calls Tryz.prog 112 #[.slice A n c] w fun e w' => e = .returned (.int .u32 (crc l : Nat)) ∧ w = w' := by
  have hc := h.out.nc
  have hc2 := h.out.c63
  go_enter Tryz.func112, Tryz.ntmps112
  go_wp2
  go_loop [3, 9] (fun s i => ∃ k : Nat, k ≤ n ∧ i = .int .i64 k ∧ s = .int .u32 (cf 4294967295 (l.take k) : Nat)) (fun _ i => (n - intOf i).toNat)
  case atStart => exact ⟨0, by omega, rfl, rfl⟩
  case round =>
    obtain ⟨k, hk, rfl, rfl⟩ := hrel
    have hb := cf_lt (c := 4294967295) (by omega) (l.take k)
    obtain ⟨s, hs⟩ : ∃ s, cf 4294967295 (l.take k) = s := ⟨_, rfl⟩
    by_cases hlt : k < n
    · obtain ⟨g, o, x, rfl, hg, hx, hcell⟩ := h.out.byte hlt
      have HS : Hid (cf 4294967295 (l.take (k + 1)) = csN 8 (s ^^^ x.toNat)) := by rw [take_snoc hx, cf_snoc, hs]; exact Lib.hid rfl
      rw [hs] at hb ⊢
      clear hs hx
      have hx := x.toNat_lt
      have hxr := x_byte s x hb
      have hxl := xr_lt hb x
      obtain ⟨t, ht⟩ : ∃ t, s ^^^ x.toNat = t := ⟨_, rfl⟩
      rw [ht] at hxr hxl HS
      clear ht
      go_wp2
      go_loop [3, 17] (fun s j => ∃ m : Nat, m ≤ 8 ∧ j = .int .i64 m ∧ s = .int .u32 (csN m t : Nat)) (fun _ j => (8 - intOf j).toNat)
      case atStart => exact ⟨0, by omega, rfl, rfl⟩
      case round =>
        obtain ⟨m, hm, rfl, rfl⟩ := hrel
        have hb2 := csN_lt m hxl
        have HC := csN_succ m t
        obtain ⟨y, hy⟩ : ∃ y, csN m t = y := ⟨_, rfl⟩
        rw [hy] at hb2 HC ⊢
        by_cases hm8 : m < 8
        · by_cases ho : y % 2 = 1
          · have hp : bits .xor .u32 ((y : Int) / 2) 3988292384 = ((y / 2 ^^^ 3988292384 : Nat) : Int) := x_poly (y / 2) (by omega)
            have ha : bits .and .u32 (y : Int) 1 = 1 := by rw [and_one y hb2, ho]; rfl
            rw [cs_odd ho] at HC
            have HC := Lib.hid HC
            go_wp2
            go_round
            case rel => exact ⟨m + 1, by omega, by go_num, by rw [HC.out]⟩
            case measure => simp [intOf]; omega
          · have ha : bits .and .u32 (y : Int) 1 = 0 := by rw [and_one y hb2, show y % 2 = 0 by omega]; rfl
            rw [cs_even ho] at HC
            have HC := Lib.hid HC
            go_wp2
            go_round
            case rel => exact ⟨m + 1, by omega, by go_num, by rw [HC.out]; rfl⟩
            case measure => simp [intOf]; omega
        · obtain rfl : m = 8 := by omega
          clear HC
          have HS : Hid (cf 4294967295 (List.take (k + 1) l) = y) := by rw [HS.out, hy]; exact Lib.hid rfl
          go_wp2
          go_round
          case rel => exact ⟨k + 1, by omega, by go_num, by rw [HS.out]⟩
          case measure => simp [intOf]; omega
    · obtain rfl : k = n := by omega
      rw [hs] at hb ⊢
      have HS : Hid (crc l = 4294967295 - s) := by rw [← hs, take_n hl.out]; exact Lib.hid rfl
      clear hs
      have hfl := u32_not s hb
      go_wp2
      go_ret
      exact ⟨ret_int (by rw [HS.out]), rfl⟩
end Go.Proofs.YtpmkohnljngbhaaGreatDoor.Pg
/- Walks of the small functions of page: size, room, take. -/
namespace Go.Proofs.YtpmkohnljngbhaaGreatDoor.Pg
set_option maxRecDepth 1000000
open Go.RowKit Wl

/-- The size of an item. -/
theorem size_any (kind : Nat) (x : IV) (w : World) (hk : kind = 1 ∨ kind = 2) (h1 : x.k.length ≤ 40) (h2 : x.v.length ≤ 120) :
    Calls Tryz.prog 99 #[.agg #[.slice x.kA x.k.length x.kc, .slice x.vA x.v.length x.vc, .int .i64 (x.ch : Int)], .int .i64 (kind : Int)] w fun e w' => e = .returned (.int .i64 (isz kind x.it : Nat)) ∧ Below w.heap.size w w' := by
  rcases hk with rfl | rfl
  · have hs : isz 1 x.it = 2 + x.k.length + x.v.length := rfl
    rw [hs]
    go_enter Tryz.func99, Tryz.ntmps99
    go_wp2
    go_ret
    exact ⟨ret_int (by omega), bal _ _⟩
  · have hs : isz 2 x.it = 3 + x.k.length := rfl
    rw [hs]
    go_enter Tryz.func99, Tryz.ntmps99
    go_wp2
    go_ret
    exact ⟨ret_int (by omega), bal _ _⟩
/-- Keys and values have permitted lengths. -/
def Lim (l : List IV) : Prop := ∀ x ∈ l, x.k.length ≤ 40 ∧ x.v.length ≤ 120
theorem tot_take {kind : Nat} {l : List IV} {k : Nat} {x : IV} (h : l[k]? = some x) : tot kind (its (l.take (k + 1))) = tot kind (its (l.take k)) + isz kind x.it := by
  rw [List.take_add_one, h, its_app, tot_app]; rfl
theorem tot_le {kind : Nat} {l : List IV} (h : Lim l) (k : Nat) : tot kind (its (l.take k)) ≤ 162 * k := by
  induction k with
  | zero => simp [its, tot]
  | succ k ih =>
    rcases hx : l[k]? with _ | x
    · rw [List.take_add_one, hx]; simp only [Option.toList_none, List.append_nil]; omega
    · rw [tot_take hx]
      obtain ⟨h1, h2⟩ := h x (List.mem_of_getElem? hx)
      have : isz kind x.it ≤ 162 := by unfold isz; split <;> simp only [IV.it] <;> omega
      omega
theorem room_any {A : Option Addr} {n c kind : Nat} {l : List IV} (w : World) (hk : kind = 1 ∨ kind = 2) (h : Hid (Rd w 3 A n c (ic l))) (hl : Hid (Lim l)) (hn : n ≤ 100000) :
    Calls Tryz.prog 97 #[.int .i64 (kind : Int), .slice A n c] w fun e w' => e = .returned (.bool (decide (tot kind (its l) ≤ 250))) ∧ Below w.heap.size w w' := by
  have hc := h.out.nc
  have hc2 := h.out.c63
  go_enter Tryz.func97, Tryz.ntmps97
  go_wp2
  go_loopw [5, 10] (fun s i wr => ∃ k : Nat, k ≤ n ∧ i = .int .i64 k ∧ s = .int .i64 ((6 + tot kind (its (l.take k)) : Nat) : Int) ∧ Below w.heap.size w wr) (fun _ i _ => (n - intOf i).toNat)
  case atStart => exact ⟨0, by omega, rfl, rfl, Below.refl _ _⟩
  case round =>
    obtain ⟨k, hk', rfl, rfl, bw⟩ := hrel
    have ht := tot_le (kind := kind) hl.out k
    obtain ⟨s, hs⟩ : ∃ s, tot kind (its (l.take k)) = s := ⟨_, rfl⟩
    rw [hs] at ht ⊢
    by_cases hlt : k < n
    · obtain ⟨g, o, x, rfl, hg, hx, c0, c1, c2⟩ := Rd.item (Rd.below h.out bw) hlt
      obtain ⟨h1, h2⟩ := hl.out x (List.mem_of_getElem? hx)
      have HT : Hid (tot kind (its (l.take (k + 1))) = s + isz kind x.it) := by rw [tot_take hx, hs]; exact Lib.hid rfl
      have hi : isz kind x.it ≤ 162 := by unfold isz; split <;> simp only [IV.it] <;> omega
      obtain ⟨q, hq⟩ : ∃ q, isz kind x.it = q := ⟨_, rfl⟩
      have HQ := Lib.hid hq
      rw [hq] at HT hi
      clear hs hx hq
      simp only [IV.kv, IV.vv] at c0 c1 c2
      have bx := bel_alloc bw (Nat.le_refl _) (.cells #[.slice x.kA x.k.length x.kc, .slice x.vA x.v.length x.vc, .int .i64 (x.ch : Int)] 96)
      go_wp2_with fail
      go_at_call 99
      refine (size_any kind x _ hk h1 h2).mono ?_
      rw [HQ.out]
      rintro e w1 ⟨rfl, b1⟩
      have bw1 := bx.trans (b1.mono bx.size)
      go_wp2_with fail
      go_roundw
      case rel => exact ⟨k + 1, by omega, by go_num, by rw [HT.out]; go_num, bw1⟩
      case measure => simp [intOf]; omega
    · obtain rfl : k = n := by omega
      have HS : Hid (tot kind (its l) = s) := by rw [← hs, List.take_of_length_le (by have := len3 h.out; omega)]; exact Lib.hid rfl
      clear hs
      by_cases hd : s ≤ 250
      · have HD : Hid (decide (tot kind (its l) ≤ 250) = true) := by rw [HS.out]; exact Lib.hid (decide_eq_true hd)
        go_wp2
        go_ret
        exact ⟨by rw [HD.out]; simp; omega, bw⟩
      · have HD : Hid (decide (tot kind (its l) ≤ 250) = false) := by rw [HS.out]; exact Lib.hid (decide_eq_false hd)
        go_wp2
        go_ret
        exact ⟨by rw [HD.out]; simp; omega, bw⟩
theorem Rd.pre {w : World} {n c k : Nat} {A : Option Addr} {l : List UInt8} (h : Rd w 1 A n c (bv l)) (hk : k ≤ n) : Rd w 1 A k c (bv (l.take k)) := by
  have hl := h.len
  have hnc := h.nc
  rw [bv_len] at hl
  refine ⟨by rw [bv_len, List.length_take]; omega, by omega, h.nil, h.c63, fun hp => ?_⟩
  obtain ⟨g, o, e, hb, hc⟩ := h.at_ (by omega)
  exact ⟨g, o, e, hb, fun j hj => by rw [hc j (by omega), ← bv_take, List.getElem?_take, if_pos (by omega)]⟩
/-- take: so many bytes of the rest, or nil. -/
theorem take_no {g o m d b k : Nat} (w : World) (h : Hid (w.cell? ⟨b, 0, none⟩ = some (.slice (some ⟨g, o, none⟩) m d))) (hk : m < k) (h2 : k ≤ 256) :
    Calls Tryz.prog 113 #[.int .i64 (k : Int), .pointer (some ⟨b, 0, none⟩)] w fun e w' => e = .returned (.slice none 0 0) ∧ w = w' := by
  have hc := h.out
  have hd : decide ((k : Int) > (m : Int)) = true := decide_eq_true (by omega)
  go_enter Tryz.func113, Tryz.ntmps113
  go_wp2
  go_ret
  exact ⟨rfl, rfl⟩
theorem take_yes {g o m d b k : Nat} {r : List UInt8} (w : World) (h : Hid (w.cell? ⟨b, 0, none⟩ = some (.slice (some ⟨g, o, none⟩) m d))) (hf : Hid (w.frozen? ⟨b, 0, none⟩ = false)) (hr : Hid (Rd w 1 (some ⟨g, o, none⟩) m d (bv r))) (hk : k ≤ m) (h2 : m ≤ 256) (hbg : b ≠ g) :
    Calls Tryz.prog 113 #[.int .i64 (k : Int), .pointer (some ⟨b, 0, none⟩)] w fun e w' => ∃ o', e = .returned (.slice (some ⟨g, o, none⟩) k d) ∧ w' = w.setCell ⟨b, 0, none⟩ (.slice (some ⟨g, o', none⟩) (m - k) (d - k)) ∧ Hid (Rd w 1 (some ⟨g, o', none⟩) (m - k) (d - k) (bv (r.drop k))) := by
  have hc := h.out
  have hfz := hf.out
  have hnc := hr.out.nc
  have h63 := hr.out.c63
  have hd : decide ((k : Int) > (m : Int)) = false := decide_eq_false (by omega)
  go_enter Tryz.func113, Tryz.ntmps113
  by_cases hdk : d = k
  · obtain rfl : k = m := by omega
    subst hdk
    have hR : Hid (Rd w 1 (some ⟨g, o, none⟩) (d - d) (d - d) (bv (r.drop d))) := by
      have hl := hr.out.len
      rw [bv_len] at hl
      refine Lib.hid ⟨by rw [bv_len, List.length_drop]; omega, by omega, fun e => (by cases e), by omega, fun hp => by omega⟩
    go_wp2
    go_ret
    exact ⟨o, rfl, by simp, hR⟩
  · have hR : Hid (Rd w 1 (some ⟨g, o + k, none⟩) (m - k) (d - k) (bv (r.drop k))) := Lib.hid (hr.out.tail hk)
    go_wp2
    go_ret
    exact ⟨o + k, rfl, rfl, hR⟩
end Go.Proofs.YtpmkohnljngbhaaGreatDoor.Pg
/- take, with what it leaves. -/
namespace Go.Proofs.YtpmkohnljngbhaaGreatDoor.Pg
set_option maxRecDepth 1000000
open Go.RowKit Wl

theorem take_nil {g o m d b k : Nat} {kI : Int} (w : World) (hkI : kI = (k : Int)) (H : Hid (Bx w b [.slice (some ⟨g, o, none⟩) m d])) (hk : m < k) (h2 : k ≤ 256) :
    Calls Tryz.prog 113 #[.int .i64 kI, .pointer (some ⟨b, 0, none⟩)] w fun e w' => e = .returned (.slice none 0 0) ∧ Hid (Kp w w' (· = b)) ∧ w'.heap.size = w.heap.size ∧ Hid (Bx w' b [.slice (some ⟨g, o, none⟩) m d]) := by
  subst hkI
  refine (take_no w (Lib.hid (H.out.at_ 0 (by simp))) hk h2).mono ?_
  rintro e w' ⟨rfl, rfl⟩
  exact ⟨rfl, Lib.hid (Kp.refl _ _), rfl, H⟩
theorem take_got {g o m d b k : Nat} {kI : Int} {r : List UInt8} (w : World) (hkI : kI = (k : Int)) (H : Hid (Bx w b [.slice (some ⟨g, o, none⟩) m d])) (hr : Hid (Rd w 1 (some ⟨g, o, none⟩) m d (bv r))) (hk : k ≤ m) (h2 : m ≤ 256) (hbg : b ≠ g) :
    Calls Tryz.prog 113 #[.int .i64 kI, .pointer (some ⟨b, 0, none⟩)] w fun e w' => ∃ o', e = .returned (.slice (some ⟨g, o, none⟩) k d) ∧ Hid (Kp w w' (· = b)) ∧ w'.heap.size = w.heap.size ∧
      Hid (Bx w' b [.slice (some ⟨g, o', none⟩) (m - k) (d - k)]) ∧ Hid (Rd w' 1 (some ⟨g, o', none⟩) (m - k) (d - k) (bv (r.drop k))) ∧ Hid (Rd w' 1 (some ⟨g, o, none⟩) k d (bv (r.take k))) := by
  subst hkI
  refine (take_yes w (Lib.hid (H.out.at_ 0 (by simp))) (Lib.hid (H.out.fz 0 (by simp))) hr hk h2 hbg).mono ?_
  rintro e w' ⟨o', rfl, rfl, hR⟩

  have hp : ∀ {n : Nat}, 0 < n → blk (some ⟨g, o, none⟩) ≠ some (⟨b, 0, none⟩ : Addr).block := fun _ e => by simp [blk] at e; exact hbg e.symm
  exact ⟨o', rfl, Lib.hid (Kp.of_set w ⟨b, 0, none⟩ _ rfl), by simp, Lib.hid (H.out.set (j := 0) (by simp) _), Lib.hid (hR.out.set ⟨b, 0, none⟩ _ fun _ e => by simp [blk] at e; exact hbg e.symm),
    Lib.hid ((Rd.pre hr.out hk).set ⟨b, 0, none⟩ _ hp)⟩
end Go.Proofs.YtpmkohnljngbhaaGreatDoor.Pg
/- Walks of utf8.DecodeRune and bytes.ContainsFunc: a byte that is not zero is found. -/
namespace Go.Proofs.YtpmkohnljngbhaaGreatDoor.Pg
set_option maxRecDepth 1000000
open Go.RowKit Wl

def fst8 (b : Nat) : Nat := Go.Pinned.utf8FirstZ.getD b 0
def acc : List Nat := [128, 191, 160, 191, 128, 159, 144, 191, 128, 143]
/-- The tables of the library lie as the program's text lays them. -/
structure Gl (w : World) : Prop where
  sz : 3 ≤ w.heap.size
  first : ∀ i, i < 256 → w.cell? ⟨1, i, none⟩ = some (.int .u8 (fst8 i : Nat))
  acc : ∀ i, i < 10 → w.cell? ⟨2, i, none⟩ = some (.int .u8 (acc.getD i 0 : Nat))
def okb (b : Nat) : Bool := decide (b < 128) || fst8 b == 241 || (fst8 b == 2 && decide (194 ≤ b ∧ b < 224)) || (fst8 b == 19 && b == 224) || (fst8 b == 3 && decide (225 ≤ b ∧ b < 240)) || (fst8 b == 35 && b == 237) || (fst8 b == 52 && b == 240) ||
  (fst8 b == 4 && decide (241 ≤ b ∧ b < 244)) || (fst8 b == 68 && b == 244)
theorem okb_all : (List.range 256).all okb = true := by kernel_rfl
theorem okb_of (b x : Nat) (hx : fst8 b = x) (h1 : 128 ≤ b) (h : okb b = true) : x = 241 ∨ (x = 2 ∧ 194 ≤ b ∧ b < 224) ∨ (x = 19 ∧ b = 224) ∨ (x = 3 ∧ 225 ≤ b ∧ b < 240) ∨ (x = 35 ∧ b = 237) ∨ (x = 52 ∧ b = 240) ∨ (x = 4 ∧ 241 ≤ b ∧ b < 244) ∨ (x = 68 ∧ b = 244) := by
  unfold okb at h
  rw [hx] at h
  simp only [Bool.or_eq_true, Bool.and_eq_true, decide_eq_true_eq, beq_iff_eq] at h
  rcases h with ((((((((h | h) | h) | h) | h) | h) | h) | h) | h)
  · exact absurd h (by omega)
  · exact .inl h
  · exact .inr (.inl h)
  · exact .inr (.inr (.inl h))
  · exact .inr (.inr (.inr (.inl h)))
  · exact .inr (.inr (.inr (.inr (.inl h))))
  · exact .inr (.inr (.inr (.inr (.inr (.inl h)))))
  · exact .inr (.inr (.inr (.inr (.inr (.inr (.inl h))))))
  · exact .inr (.inr (.inr (.inr (.inr (.inr (.inr h))))))
theorem okb_at (b : Nat) (h2 : b < 256) : okb b = true := List.all_eq_true.1 okb_all b (List.mem_range.2 h2)
theorem i32_or_nat (a b : Nat) (ha : a < 2147483648) (hb : b < 2147483648) : bits .or .i32 (a : Int) (b : Int) = ((a ||| b : Nat) : Int) := by
  have hx : a ||| b < 2 ^ 31 := Nat.or_lt_two_pow (by omega) (by omega)
  show IntKind.i32.wrap ((BitVec.ofInt 32 (a : Int) ||| BitVec.ofInt 32 (b : Int)).toNat : Int) = _
  rw [BitVec.toNat_or, ofInt_u32 a (by omega), ofInt_u32 b (by omega)]
  simp [IntKind.wrap, IntKind.bits, IntKind.signed]
  omega
theorem or_ne {a b : Nat} (h : a ≠ 0 ∨ b ≠ 0) : a ||| b ≠ 0 := by
  intro e
  obtain ⟨h1, h2⟩ := Nat.or_eq_zero_iff.1 e
  omega
theorem or_nat2 (a b : Nat) (ha : a < 2147483648) (hb : b < 2147483648) : bits .or .i32 (a : Int) (b : Int) = ((a ||| b : Nat) : Int) := i32_or_nat a b ha hb
theorem or_ne2 (a b : Nat) (ha : a < 2147483648) (hb : b < 2147483648) (h : a ≠ 0 ∨ b ≠ 0) : bits .or .i32 (a : Int) (b : Int) ≠ 0 := by
  rw [i32_or_nat a b ha hb]
  have := or_ne h
  omega
theorem err_ne (b : Nat) (h : b < 256) : bits .or .i32 (bits .andNot .i32 (b : Int) (wrap32 517543559168 / 2147483648)) (bits .and .i32 65533 (wrap32 517543559168 / 2147483648)) ≠ 0 := by
  have : (List.range 256).all (fun b => decide (bits .or .i32 (bits .andNot .i32 (b : Int) (wrap32 517543559168 / 2147483648)) (bits .and .i32 65533 (wrap32 517543559168 / 2147483648)) ≠ 0)) = true := by kernel_rfl
  exact of_decide_eq_true (List.all_eq_true.1 this b (List.mem_range.2 h))
set_option maxHeartbeats 3200000 in
theorem slow_any {A : Option Addr} {n c : Nat} {l : List UInt8} {b0 : UInt8} (w : World) (G : Hid (Gl w)) (h : Hid (Rd w 1 A n c (bv l))) (h0 : Hid (l[0]? = some b0)) (hb : 128 ≤ b0.toNat) (hn1 : 1 ≤ n) (hn : n ≤ 256) :
    Calls Tryz.prog 128 #[.slice A n c] w fun e w' => ∃ q s : Int, e = .returned (.tuple #[.int .i32 q, .int .i64 s]) ∧ q ≠ 0 ∧ Below w.heap.size w w' := by
  have hc := h.out.nc
  have hc2 := h.out.c63
  obtain ⟨g, o, x, rfl, hg, hx, c0⟩ := h.out.byte (k := 0) (by omega)
  obtain rfl : b0 = x := by have := h0.out; rw [this] at hx; injection hx
  have hxl := b0.toNat_lt
  have cf := G.out.first b0.toNat (by omega)
  have sz := G.out.sz
  obtain ⟨z, hz⟩ : ∃ z, b0.toNat = z := ⟨_, rfl⟩
  obtain ⟨y, hy⟩ : ∃ y, fst8 z = y := ⟨_, rfl⟩
  rw [Nat.add_zero, hz] at c0
  rw [hz, hy] at cf
  rw [hz] at hb hxl
  have HY := okb_of z y hy hb (okb_at z (by omega))
  have n31 : bits .and .u8 (z : Int) 31 = (z : Int) % 32 := by rw [show (z : Int) % 32 = ((z % 32 : Nat) : Int) by omega, ← nat_mask5]; exact u8_and_nat z 31 (by omega) (by omega)
  have n15 : bits .and .u8 (z : Int) 15 = (z : Int) % 16 := by rw [show (z : Int) % 16 = ((z % 16 : Nat) : Int) by omega, ← nat_mask4]; exact u8_and_nat z 15 (by omega) (by omega)
  have n7 : bits .and .u8 (z : Int) 7 = (z : Int) % 8 := by rw [show (z : Int) % 8 = ((z % 8 : Nat) : Int) by omega, ← nat_mask3]; exact u8_and_nat z 7 (by omega) (by omega)
  have e0 := err_ne z (by omega)
  clear hx hz h0 hy
  have second : ∀ {k : Nat}, k < n → ∃ x : Nat, x < 256 ∧ w.cell? ⟨g, o + k, none⟩ = some (.int .u8 (x : Int)) ∧ bits .and .u8 (x : Int) 63 = (x : Int) % 64 := by
    intro k hk
    obtain ⟨g', o', x, e, _, _, cc⟩ := h.out.byte hk
    injection e with e
    injection e with e1 e2
    subst e1 e2
    have := x.toNat_lt
    exact ⟨x.toNat, by omega, cc, by rw [show ((x.toNat : Nat) : Int) % 64 = ((x.toNat % 64 : Nat) : Int) by omega, ← nat_mask6]; exact u8_and_nat _ 63 (by omega) (by omega)⟩
  rcases HY with rfl | ⟨rfl, H⟩ | ⟨rfl, H⟩ | ⟨rfl, H⟩ | ⟨rfl, H⟩ | ⟨rfl, H⟩ | ⟨rfl, H⟩ | ⟨rfl, H⟩
  · go_enter Tryz.func128, Tryz.ntmps128
    go_wp2
    go_ret2
    exact ⟨_, _, rfl, e0, Below.refl _ _⟩
  --ARMS
  · clear n15 n7
    have a0 : w.cell? ⟨2, 0, none⟩ = some (.int .u8 128) := G.out.acc 0 (by omega)
    have a1 : w.cell? ⟨2, 1, none⟩ = some (.int .u8 191) := G.out.acc 1 (by omega)
    by_cases hn2 : n < 2
    · clear second
      go_enter Tryz.func128, Tryz.ntmps128
      go_wp2
      all_goals go_ret2
      all_goals (first | exact ⟨_, _, rfl, by decide, bal _ _⟩ | exact ⟨_, ⟨_, rfl⟩, by decide, bal _ _⟩ | (refine ⟨_, ⟨_, rfl⟩, ?_, bal _ _⟩; omega) | exact ⟨_, _, rfl, R, bal _ _⟩ | (refine ⟨_, _, rfl, ?_, bal _ _⟩; omega) | (refine ⟨?_, bal _ _⟩; omega))
    · obtain ⟨x1, l1, c1, m1⟩ := second (k := 1) (by omega)
      clear second
      by_cases hx1 : x1 < 128
      · go_enter Tryz.func128, Tryz.ntmps128
        go_wp2
        all_goals go_ret2
        all_goals (first | exact ⟨_, _, rfl, by decide, bal _ _⟩ | exact ⟨_, ⟨_, rfl⟩, by decide, bal _ _⟩ | (refine ⟨_, ⟨_, rfl⟩, ?_, bal _ _⟩; omega) | exact ⟨_, _, rfl, R, bal _ _⟩ | (refine ⟨_, _, rfl, ?_, bal _ _⟩; omega) | (refine ⟨?_, bal _ _⟩; omega))
      · by_cases hx1b : 191 < x1
        · go_enter Tryz.func128, Tryz.ntmps128
          go_wp2
          all_goals go_ret2
          all_goals (first | exact ⟨_, _, rfl, by decide, bal _ _⟩ | exact ⟨_, ⟨_, rfl⟩, by decide, bal _ _⟩ | (refine ⟨_, ⟨_, rfl⟩, ?_, bal _ _⟩; omega) | exact ⟨_, _, rfl, R, bal _ _⟩ | (refine ⟨_, _, rfl, ?_, bal _ _⟩; omega) | (refine ⟨?_, bal _ _⟩; omega))
        · have R := or_ne2 (z % 32 * 64) (x1 % 64) (by omega) (by omega) (by omega)
          simp only [Int.natCast_mul, Int.natCast_emod, Int.cast_ofNat_Int] at R 
          go_enter Tryz.func128, Tryz.ntmps128
          go_wp2
          all_goals go_ret2
          all_goals (first | exact ⟨_, _, rfl, by decide, bal _ _⟩ | exact ⟨_, ⟨_, rfl⟩, by decide, bal _ _⟩ | (refine ⟨_, ⟨_, rfl⟩, ?_, bal _ _⟩; omega) | exact ⟨_, _, rfl, R, bal _ _⟩ | (refine ⟨_, _, rfl, ?_, bal _ _⟩; omega) | (refine ⟨?_, bal _ _⟩; omega))
  · replace H : 224 ≤ z ∧ z < 225 := by omega
    clear n31 n7
    have a0 : w.cell? ⟨2, 2, none⟩ = some (.int .u8 160) := G.out.acc 2 (by omega)
    have a1 : w.cell? ⟨2, 3, none⟩ = some (.int .u8 191) := G.out.acc 3 (by omega)
    by_cases hn3 : n < 3
    · clear second
      go_enter Tryz.func128, Tryz.ntmps128
      go_wp2
      all_goals go_ret2
      all_goals (first | exact ⟨_, _, rfl, by decide, bal _ _⟩ | exact ⟨_, ⟨_, rfl⟩, by decide, bal _ _⟩ | (refine ⟨_, ⟨_, rfl⟩, ?_, bal _ _⟩; omega) | exact ⟨_, _, rfl, R, bal _ _⟩ | (refine ⟨_, _, rfl, ?_, bal _ _⟩; omega) | (refine ⟨?_, bal _ _⟩; omega))
    · obtain ⟨x1, l1, c1, m1⟩ := second (k := 1) (by omega)
      obtain ⟨x2, l2, c2, m2⟩ := second (k := 2) (by omega)
      clear second
      by_cases hx1 : x1 < 160
      · go_enter Tryz.func128, Tryz.ntmps128
        go_wp2
        all_goals go_ret2
        all_goals (first | exact ⟨_, _, rfl, by decide, bal _ _⟩ | exact ⟨_, ⟨_, rfl⟩, by decide, bal _ _⟩ | (refine ⟨_, ⟨_, rfl⟩, ?_, bal _ _⟩; omega) | exact ⟨_, _, rfl, R, bal _ _⟩ | (refine ⟨_, _, rfl, ?_, bal _ _⟩; omega) | (refine ⟨?_, bal _ _⟩; omega))
      · by_cases hx1b : 191 < x1
        · go_enter Tryz.func128, Tryz.ntmps128
          go_wp2
          all_goals go_ret2
          all_goals (first | exact ⟨_, _, rfl, by decide, bal _ _⟩ | exact ⟨_, ⟨_, rfl⟩, by decide, bal _ _⟩ | (refine ⟨_, ⟨_, rfl⟩, ?_, bal _ _⟩; omega) | exact ⟨_, _, rfl, R, bal _ _⟩ | (refine ⟨_, _, rfl, ?_, bal _ _⟩; omega) | (refine ⟨?_, bal _ _⟩; omega))
        · have R0 := or_nat2 (z % 16 * 4096) (x1 % 64 * 64) (by omega) (by omega)
          have R1 := or_ne (a := z % 16 * 4096) (b := x1 % 64 * 64) (by omega)
          have R2 : z % 16 * 4096 ||| x1 % 64 * 64 < 2147483648 := Nat.or_lt_two_pow (n := 31) (by omega) (by omega)
          obtain ⟨y, hy⟩ : ∃ y, z % 16 * 4096 ||| x1 % 64 * 64 = y := ⟨_, rfl⟩
          rw [hy] at R0 R1 R2
          have R := or_ne2 y (x2 % 64) (by omega) (by omega) (by omega)
          clear hy
          simp only [Int.natCast_mul, Int.natCast_emod, Int.cast_ofNat_Int] at R R0
          go_enter Tryz.func128, Tryz.ntmps128
          go_wp2
          all_goals go_ret2
          all_goals (first | exact ⟨_, _, rfl, by decide, bal _ _⟩ | exact ⟨_, ⟨_, rfl⟩, by decide, bal _ _⟩ | (refine ⟨_, ⟨_, rfl⟩, ?_, bal _ _⟩; omega) | exact ⟨_, _, rfl, R, bal _ _⟩ | (refine ⟨_, _, rfl, ?_, bal _ _⟩; omega) | (refine ⟨?_, bal _ _⟩; omega))
  · clear n31 n7
    have a0 : w.cell? ⟨2, 0, none⟩ = some (.int .u8 128) := G.out.acc 0 (by omega)
    have a1 : w.cell? ⟨2, 1, none⟩ = some (.int .u8 191) := G.out.acc 1 (by omega)
    by_cases hn3 : n < 3
    · clear second
      go_enter Tryz.func128, Tryz.ntmps128
      go_wp2
      all_goals go_ret2
      all_goals (first | exact ⟨_, _, rfl, by decide, bal _ _⟩ | exact ⟨_, ⟨_, rfl⟩, by decide, bal _ _⟩ | (refine ⟨_, ⟨_, rfl⟩, ?_, bal _ _⟩; omega) | exact ⟨_, _, rfl, R, bal _ _⟩ | (refine ⟨_, _, rfl, ?_, bal _ _⟩; omega) | (refine ⟨?_, bal _ _⟩; omega))
    · obtain ⟨x1, l1, c1, m1⟩ := second (k := 1) (by omega)
      obtain ⟨x2, l2, c2, m2⟩ := second (k := 2) (by omega)
      clear second
      by_cases hx1 : x1 < 128
      · go_enter Tryz.func128, Tryz.ntmps128
        go_wp2
        all_goals go_ret2
        all_goals (first | exact ⟨_, _, rfl, by decide, bal _ _⟩ | exact ⟨_, ⟨_, rfl⟩, by decide, bal _ _⟩ | (refine ⟨_, ⟨_, rfl⟩, ?_, bal _ _⟩; omega) | exact ⟨_, _, rfl, R, bal _ _⟩ | (refine ⟨_, _, rfl, ?_, bal _ _⟩; omega) | (refine ⟨?_, bal _ _⟩; omega))
      · by_cases hx1b : 191 < x1
        · go_enter Tryz.func128, Tryz.ntmps128
          go_wp2
          all_goals go_ret2
          all_goals (first | exact ⟨_, _, rfl, by decide, bal _ _⟩ | exact ⟨_, ⟨_, rfl⟩, by decide, bal _ _⟩ | (refine ⟨_, ⟨_, rfl⟩, ?_, bal _ _⟩; omega) | exact ⟨_, _, rfl, R, bal _ _⟩ | (refine ⟨_, _, rfl, ?_, bal _ _⟩; omega) | (refine ⟨?_, bal _ _⟩; omega))
        · have R0 := or_nat2 (z % 16 * 4096) (x1 % 64 * 64) (by omega) (by omega)
          have R1 := or_ne (a := z % 16 * 4096) (b := x1 % 64 * 64) (by omega)
          have R2 : z % 16 * 4096 ||| x1 % 64 * 64 < 2147483648 := Nat.or_lt_two_pow (n := 31) (by omega) (by omega)
          obtain ⟨y, hy⟩ : ∃ y, z % 16 * 4096 ||| x1 % 64 * 64 = y := ⟨_, rfl⟩
          rw [hy] at R0 R1 R2
          have R := or_ne2 y (x2 % 64) (by omega) (by omega) (by omega)
          clear hy
          simp only [Int.natCast_mul, Int.natCast_emod, Int.cast_ofNat_Int] at R R0
          go_enter Tryz.func128, Tryz.ntmps128
          go_wp2
          all_goals go_ret2
          all_goals (first | exact ⟨_, _, rfl, by decide, bal _ _⟩ | exact ⟨_, ⟨_, rfl⟩, by decide, bal _ _⟩ | (refine ⟨_, ⟨_, rfl⟩, ?_, bal _ _⟩; omega) | exact ⟨_, _, rfl, R, bal _ _⟩ | (refine ⟨_, _, rfl, ?_, bal _ _⟩; omega) | (refine ⟨?_, bal _ _⟩; omega))
  · replace H : 237 ≤ z ∧ z < 238 := by omega
    clear n31 n7
    have a0 : w.cell? ⟨2, 4, none⟩ = some (.int .u8 128) := G.out.acc 4 (by omega)
    have a1 : w.cell? ⟨2, 5, none⟩ = some (.int .u8 159) := G.out.acc 5 (by omega)
    by_cases hn3 : n < 3
    · clear second
      go_enter Tryz.func128, Tryz.ntmps128
      go_wp2
      all_goals go_ret2
      all_goals (first | exact ⟨_, _, rfl, by decide, bal _ _⟩ | exact ⟨_, ⟨_, rfl⟩, by decide, bal _ _⟩ | (refine ⟨_, ⟨_, rfl⟩, ?_, bal _ _⟩; omega) | exact ⟨_, _, rfl, R, bal _ _⟩ | (refine ⟨_, _, rfl, ?_, bal _ _⟩; omega) | (refine ⟨?_, bal _ _⟩; omega))
    · obtain ⟨x1, l1, c1, m1⟩ := second (k := 1) (by omega)
      obtain ⟨x2, l2, c2, m2⟩ := second (k := 2) (by omega)
      clear second
      by_cases hx1 : x1 < 128
      · go_enter Tryz.func128, Tryz.ntmps128
        go_wp2
        all_goals go_ret2
        all_goals (first | exact ⟨_, _, rfl, by decide, bal _ _⟩ | exact ⟨_, ⟨_, rfl⟩, by decide, bal _ _⟩ | (refine ⟨_, ⟨_, rfl⟩, ?_, bal _ _⟩; omega) | exact ⟨_, _, rfl, R, bal _ _⟩ | (refine ⟨_, _, rfl, ?_, bal _ _⟩; omega) | (refine ⟨?_, bal _ _⟩; omega))
      · by_cases hx1b : 159 < x1
        · go_enter Tryz.func128, Tryz.ntmps128
          go_wp2
          all_goals go_ret2
          all_goals (first | exact ⟨_, _, rfl, by decide, bal _ _⟩ | exact ⟨_, ⟨_, rfl⟩, by decide, bal _ _⟩ | (refine ⟨_, ⟨_, rfl⟩, ?_, bal _ _⟩; omega) | exact ⟨_, _, rfl, R, bal _ _⟩ | (refine ⟨_, _, rfl, ?_, bal _ _⟩; omega) | (refine ⟨?_, bal _ _⟩; omega))
        · have R0 := or_nat2 (z % 16 * 4096) (x1 % 64 * 64) (by omega) (by omega)
          have R1 := or_ne (a := z % 16 * 4096) (b := x1 % 64 * 64) (by omega)
          have R2 : z % 16 * 4096 ||| x1 % 64 * 64 < 2147483648 := Nat.or_lt_two_pow (n := 31) (by omega) (by omega)
          obtain ⟨y, hy⟩ : ∃ y, z % 16 * 4096 ||| x1 % 64 * 64 = y := ⟨_, rfl⟩
          rw [hy] at R0 R1 R2
          have R := or_ne2 y (x2 % 64) (by omega) (by omega) (by omega)
          clear hy
          simp only [Int.natCast_mul, Int.natCast_emod, Int.cast_ofNat_Int] at R R0
          go_enter Tryz.func128, Tryz.ntmps128
          go_wp2
          all_goals go_ret2
          all_goals (first | exact ⟨_, _, rfl, by decide, bal _ _⟩ | exact ⟨_, ⟨_, rfl⟩, by decide, bal _ _⟩ | (refine ⟨_, ⟨_, rfl⟩, ?_, bal _ _⟩; omega) | exact ⟨_, _, rfl, R, bal _ _⟩ | (refine ⟨_, _, rfl, ?_, bal _ _⟩; omega) | (refine ⟨?_, bal _ _⟩; omega))
  · replace H : 240 ≤ z ∧ z < 241 := by omega
    clear n31 n15
    have a0 : w.cell? ⟨2, 6, none⟩ = some (.int .u8 144) := G.out.acc 6 (by omega)
    have a1 : w.cell? ⟨2, 7, none⟩ = some (.int .u8 191) := G.out.acc 7 (by omega)
    by_cases hn4 : n < 4
    · clear second
      go_enter Tryz.func128, Tryz.ntmps128
      go_wp2
      all_goals go_ret2
      all_goals (first | exact ⟨_, _, rfl, by decide, bal _ _⟩ | exact ⟨_, ⟨_, rfl⟩, by decide, bal _ _⟩ | (refine ⟨_, ⟨_, rfl⟩, ?_, bal _ _⟩; omega) | exact ⟨_, _, rfl, R, bal _ _⟩ | (refine ⟨_, _, rfl, ?_, bal _ _⟩; omega) | (refine ⟨?_, bal _ _⟩; omega))
    · obtain ⟨x1, l1, c1, m1⟩ := second (k := 1) (by omega)
      obtain ⟨x2, l2, c2, m2⟩ := second (k := 2) (by omega)
      obtain ⟨x3, l3, c3, m3⟩ := second (k := 3) (by omega)
      clear second
      by_cases hx1 : x1 < 144
      · go_enter Tryz.func128, Tryz.ntmps128
        go_wp2
        all_goals go_ret2
        all_goals (first | exact ⟨_, _, rfl, by decide, bal _ _⟩ | exact ⟨_, ⟨_, rfl⟩, by decide, bal _ _⟩ | (refine ⟨_, ⟨_, rfl⟩, ?_, bal _ _⟩; omega) | exact ⟨_, _, rfl, R, bal _ _⟩ | (refine ⟨_, _, rfl, ?_, bal _ _⟩; omega) | (refine ⟨?_, bal _ _⟩; omega))
      · by_cases hx1b : 191 < x1
        · go_enter Tryz.func128, Tryz.ntmps128
          go_wp2
          all_goals go_ret2
          all_goals (first | exact ⟨_, _, rfl, by decide, bal _ _⟩ | exact ⟨_, ⟨_, rfl⟩, by decide, bal _ _⟩ | (refine ⟨_, ⟨_, rfl⟩, ?_, bal _ _⟩; omega) | exact ⟨_, _, rfl, R, bal _ _⟩ | (refine ⟨_, _, rfl, ?_, bal _ _⟩; omega) | (refine ⟨?_, bal _ _⟩; omega))
        · have R0 := or_nat2 (z % 8 * 262144) (x1 % 64 * 4096) (by omega) (by omega)
          have R1 := or_ne (a := z % 8 * 262144) (b := x1 % 64 * 4096) (by omega)
          have R2 : z % 8 * 262144 ||| x1 % 64 * 4096 < 2147483648 := Nat.or_lt_two_pow (n := 31) (by omega) (by omega)
          obtain ⟨y, hy⟩ : ∃ y, z % 8 * 262144 ||| x1 % 64 * 4096 = y := ⟨_, rfl⟩
          rw [hy] at R0 R1 R2
          have S0 := or_nat2 y (x2 % 64 * 64) (by omega) (by omega)
          have S1 := or_ne (a := y) (b := x2 % 64 * 64) (by omega)
          have S2 : y ||| x2 % 64 * 64 < 2147483648 := Nat.or_lt_two_pow (n := 31) (by omega) (by omega)
          obtain ⟨q, hq⟩ : ∃ q, y ||| x2 % 64 * 64 = q := ⟨_, rfl⟩
          rw [hq] at S0 S1 S2
          have R := or_ne2 q (x3 % 64) (by omega) (by omega) (by omega)
          clear hy hq
          simp only [Int.natCast_mul, Int.natCast_emod, Int.cast_ofNat_Int] at R R0 S0
          go_enter Tryz.func128, Tryz.ntmps128
          go_wp2
          all_goals go_ret2
          all_goals (first | exact ⟨_, _, rfl, by decide, bal _ _⟩ | exact ⟨_, ⟨_, rfl⟩, by decide, bal _ _⟩ | (refine ⟨_, ⟨_, rfl⟩, ?_, bal _ _⟩; omega) | exact ⟨_, _, rfl, R, bal _ _⟩ | (refine ⟨_, _, rfl, ?_, bal _ _⟩; omega) | (refine ⟨?_, bal _ _⟩; omega))
  · clear n31 n15
    have a0 : w.cell? ⟨2, 0, none⟩ = some (.int .u8 128) := G.out.acc 0 (by omega)
    have a1 : w.cell? ⟨2, 1, none⟩ = some (.int .u8 191) := G.out.acc 1 (by omega)
    by_cases hn4 : n < 4
    · clear second
      go_enter Tryz.func128, Tryz.ntmps128
      go_wp2
      all_goals go_ret2
      all_goals (first | exact ⟨_, _, rfl, by decide, bal _ _⟩ | exact ⟨_, ⟨_, rfl⟩, by decide, bal _ _⟩ | (refine ⟨_, ⟨_, rfl⟩, ?_, bal _ _⟩; omega) | exact ⟨_, _, rfl, R, bal _ _⟩ | (refine ⟨_, _, rfl, ?_, bal _ _⟩; omega) | (refine ⟨?_, bal _ _⟩; omega))
    · obtain ⟨x1, l1, c1, m1⟩ := second (k := 1) (by omega)
      obtain ⟨x2, l2, c2, m2⟩ := second (k := 2) (by omega)
      obtain ⟨x3, l3, c3, m3⟩ := second (k := 3) (by omega)
      clear second
      by_cases hx1 : x1 < 128
      · go_enter Tryz.func128, Tryz.ntmps128
        go_wp2
        all_goals go_ret2
        all_goals (first | exact ⟨_, _, rfl, by decide, bal _ _⟩ | exact ⟨_, ⟨_, rfl⟩, by decide, bal _ _⟩ | (refine ⟨_, ⟨_, rfl⟩, ?_, bal _ _⟩; omega) | exact ⟨_, _, rfl, R, bal _ _⟩ | (refine ⟨_, _, rfl, ?_, bal _ _⟩; omega) | (refine ⟨?_, bal _ _⟩; omega))
      · by_cases hx1b : 191 < x1
        · go_enter Tryz.func128, Tryz.ntmps128
          go_wp2
          all_goals go_ret2
          all_goals (first | exact ⟨_, _, rfl, by decide, bal _ _⟩ | exact ⟨_, ⟨_, rfl⟩, by decide, bal _ _⟩ | (refine ⟨_, ⟨_, rfl⟩, ?_, bal _ _⟩; omega) | exact ⟨_, _, rfl, R, bal _ _⟩ | (refine ⟨_, _, rfl, ?_, bal _ _⟩; omega) | (refine ⟨?_, bal _ _⟩; omega))
        · have R0 := or_nat2 (z % 8 * 262144) (x1 % 64 * 4096) (by omega) (by omega)
          have R1 := or_ne (a := z % 8 * 262144) (b := x1 % 64 * 4096) (by omega)
          have R2 : z % 8 * 262144 ||| x1 % 64 * 4096 < 2147483648 := Nat.or_lt_two_pow (n := 31) (by omega) (by omega)
          obtain ⟨y, hy⟩ : ∃ y, z % 8 * 262144 ||| x1 % 64 * 4096 = y := ⟨_, rfl⟩
          rw [hy] at R0 R1 R2
          have S0 := or_nat2 y (x2 % 64 * 64) (by omega) (by omega)
          have S1 := or_ne (a := y) (b := x2 % 64 * 64) (by omega)
          have S2 : y ||| x2 % 64 * 64 < 2147483648 := Nat.or_lt_two_pow (n := 31) (by omega) (by omega)
          obtain ⟨q, hq⟩ : ∃ q, y ||| x2 % 64 * 64 = q := ⟨_, rfl⟩
          rw [hq] at S0 S1 S2
          have R := or_ne2 q (x3 % 64) (by omega) (by omega) (by omega)
          clear hy hq
          simp only [Int.natCast_mul, Int.natCast_emod, Int.cast_ofNat_Int] at R R0 S0
          go_enter Tryz.func128, Tryz.ntmps128
          go_wp2
          all_goals go_ret2
          all_goals (first | exact ⟨_, _, rfl, by decide, bal _ _⟩ | exact ⟨_, ⟨_, rfl⟩, by decide, bal _ _⟩ | (refine ⟨_, ⟨_, rfl⟩, ?_, bal _ _⟩; omega) | exact ⟨_, _, rfl, R, bal _ _⟩ | (refine ⟨_, _, rfl, ?_, bal _ _⟩; omega) | (refine ⟨?_, bal _ _⟩; omega))
  · replace H : 244 ≤ z ∧ z < 245 := by omega
    clear n31 n15
    have a0 : w.cell? ⟨2, 8, none⟩ = some (.int .u8 128) := G.out.acc 8 (by omega)
    have a1 : w.cell? ⟨2, 9, none⟩ = some (.int .u8 143) := G.out.acc 9 (by omega)
    by_cases hn4 : n < 4
    · clear second
      go_enter Tryz.func128, Tryz.ntmps128
      go_wp2
      all_goals go_ret2
      all_goals (first | exact ⟨_, _, rfl, by decide, bal _ _⟩ | exact ⟨_, ⟨_, rfl⟩, by decide, bal _ _⟩ | (refine ⟨_, ⟨_, rfl⟩, ?_, bal _ _⟩; omega) | exact ⟨_, _, rfl, R, bal _ _⟩ | (refine ⟨_, _, rfl, ?_, bal _ _⟩; omega) | (refine ⟨?_, bal _ _⟩; omega))
    · obtain ⟨x1, l1, c1, m1⟩ := second (k := 1) (by omega)
      obtain ⟨x2, l2, c2, m2⟩ := second (k := 2) (by omega)
      obtain ⟨x3, l3, c3, m3⟩ := second (k := 3) (by omega)
      clear second
      by_cases hx1 : x1 < 128
      · go_enter Tryz.func128, Tryz.ntmps128
        go_wp2
        all_goals go_ret2
        all_goals (first | exact ⟨_, _, rfl, by decide, bal _ _⟩ | exact ⟨_, ⟨_, rfl⟩, by decide, bal _ _⟩ | (refine ⟨_, ⟨_, rfl⟩, ?_, bal _ _⟩; omega) | exact ⟨_, _, rfl, R, bal _ _⟩ | (refine ⟨_, _, rfl, ?_, bal _ _⟩; omega) | (refine ⟨?_, bal _ _⟩; omega))
      · by_cases hx1b : 143 < x1
        · go_enter Tryz.func128, Tryz.ntmps128
          go_wp2
          all_goals go_ret2
          all_goals (first | exact ⟨_, _, rfl, by decide, bal _ _⟩ | exact ⟨_, ⟨_, rfl⟩, by decide, bal _ _⟩ | (refine ⟨_, ⟨_, rfl⟩, ?_, bal _ _⟩; omega) | exact ⟨_, _, rfl, R, bal _ _⟩ | (refine ⟨_, _, rfl, ?_, bal _ _⟩; omega) | (refine ⟨?_, bal _ _⟩; omega))
        · have R0 := or_nat2 (z % 8 * 262144) (x1 % 64 * 4096) (by omega) (by omega)
          have R1 := or_ne (a := z % 8 * 262144) (b := x1 % 64 * 4096) (by omega)
          have R2 : z % 8 * 262144 ||| x1 % 64 * 4096 < 2147483648 := Nat.or_lt_two_pow (n := 31) (by omega) (by omega)
          obtain ⟨y, hy⟩ : ∃ y, z % 8 * 262144 ||| x1 % 64 * 4096 = y := ⟨_, rfl⟩
          rw [hy] at R0 R1 R2
          have S0 := or_nat2 y (x2 % 64 * 64) (by omega) (by omega)
          have S1 := or_ne (a := y) (b := x2 % 64 * 64) (by omega)
          have S2 : y ||| x2 % 64 * 64 < 2147483648 := Nat.or_lt_two_pow (n := 31) (by omega) (by omega)
          obtain ⟨q, hq⟩ : ∃ q, y ||| x2 % 64 * 64 = q := ⟨_, rfl⟩
          rw [hq] at S0 S1 S2
          have R := or_ne2 q (x3 % 64) (by omega) (by omega) (by omega)
          clear hy hq
          simp only [Int.natCast_mul, Int.natCast_emod, Int.cast_ofNat_Int] at R R0 S0
          go_enter Tryz.func128, Tryz.ntmps128
          go_wp2
          all_goals go_ret2
          all_goals (first | exact ⟨_, _, rfl, by decide, bal _ _⟩ | exact ⟨_, ⟨_, rfl⟩, by decide, bal _ _⟩ | (refine ⟨_, ⟨_, rfl⟩, ?_, bal _ _⟩; omega) | exact ⟨_, _, rfl, R, bal _ _⟩ | (refine ⟨_, _, rfl, ?_, bal _ _⟩; omega) | (refine ⟨?_, bal _ _⟩; omega))
end Go.Proofs.YtpmkohnljngbhaaGreatDoor.Pg
/- Walks of bytes.ContainsFunc: a byte that is not zero is found. -/
namespace Go.Proofs.YtpmkohnljngbhaaGreatDoor.Pg
set_option maxRecDepth 1000000
open Go.RowKit Wl

theorem Gl.below {w w1 : World} (G : Gl w) (hb : Below w.heap.size w w1) : Gl w1 :=
  ⟨Nat.le_trans G.sz hb.size, fun i hi => by rw [World.cell?_of_block (hb.block 1 (by have := G.sz; omega))]; exact G.first i hi, fun i hi => by rw [World.cell?_of_block (hb.block 2 (by have := G.sz; omega))]; exact G.acc i hi⟩
theorem Gl.low {B : Nat} {w w1 : World} (G : Gl w) (hb : Below B w w1) (hB : 3 ≤ B) : Gl w1 :=
  ⟨Nat.le_trans G.sz hb.size, fun i hi => by rw [World.cell?_of_block (hb.block 1 (by omega))]; exact G.first i hi, fun i hi => by rw [World.cell?_of_block (hb.block 2 (by omega))]; exact G.acc i hi⟩
set_option maxRecDepth 1000000 in
theorem rune_any {A : Option Addr} {n c : Nat} {l : List UInt8} {b0 : UInt8} (w : World) (G : Hid (Gl w)) (h : Hid (Rd w 1 A n c (bv l))) (h0 : Hid (l[0]? = some b0)) (hn1 : 1 ≤ n) (hn : n ≤ 256) :
    Calls Tryz.prog 127 #[.slice A n c] w fun e w' => ∃ q s : Int, e = .returned (.tuple #[.int .i32 q, .int .i64 s]) ∧ (b0 = 0 → q = 0 ∧ s = 1) ∧ (b0 ≠ 0 → q ≠ 0) ∧ Below w.heap.size w w' := by
  have hc := h.out.nc
  have hc2 := h.out.c63
  obtain ⟨g, o, x, rfl, hg, hx, c0⟩ := h.out.byte (k := 0) (by omega)
  obtain rfl : b0 = x := by have := h0.out; rw [this] at hx; injection hx
  have hxl := b0.toNat_lt
  have hz : b0 = 0 ↔ b0.toNat = 0 := by rw [← UInt8.toNat_inj]; rfl
  rw [Nat.add_zero] at c0
  by_cases hb : 128 ≤ b0.toNat
  · have hne : b0 ≠ 0 := fun e => by rw [hz] at e; omega
    clear hz hx
    obtain ⟨z, hz⟩ : ∃ z, b0.toNat = z := ⟨_, rfl⟩
    rw [hz] at c0 hxl
    have hb' : 128 ≤ z := hz ▸ hb
    have HZ := Lib.hid hz
    clear hz hb
    go_enter Tryz.func127, Tryz.ntmps127
    go_wp2_with fail
    go_loop [8] (fun i => i = .int .i64 0) (fun _ => 0)
    case atStart => rfl
    case round =>
      subst hrel
      go_wp2_with fail
      go_at_call 128
      refine (slow_any _ G h h0 (by rw [HZ.out]; exact hb') hn1 hn).mono ?_
      rintro e w1 ⟨q, s, rfl, hq, b1⟩
      go_wp2_with fail
      go_ret2
      exact ⟨_, _, rfl, fun e => absurd e hne, fun _ => hq, b1⟩
  · obtain ⟨z, hz2⟩ : ∃ z, b0.toNat = z := ⟨_, rfl⟩
    rw [hz2] at c0 hxl hz hb
    have HZ := Lib.hid hz
    have hb' : z < 128 := by omega
    clear hz hb hz2
    go_enter Tryz.func127, Tryz.ntmps127
    go_wp2_with fail
    go_loop [8] (fun i => i = .int .i64 0) (fun _ => 0)
    case atStart => rfl
    case round =>
      subst hrel
      go_wp2_with fail
      go_ret2
      exact ⟨_, _, rfl, fun e => ⟨by have := HZ.out.1 e; omega, rfl⟩, fun e h => e (HZ.out.2 (by omega)), Below.refl _ _⟩
def nz (l : List UInt8) : Bool := l.any fun u => u != 0
theorem index_any {A : Option Addr} {n c : Nat} {l : List UInt8} (w : World) (G : Hid (Gl w)) (h : Hid (Rd w 1 A n c (bv l))) (hn : n ≤ 256) :
    Calls Tryz.prog 126 #[.slice A n c, .func (.func 115) #[] #[], .bool true] w fun e w' => ∃ q : Int, e = .returned (.int .i64 q) ∧ (0 ≤ q ↔ nz l = true) ∧ Below w.heap.size w w' := by
  have hc := h.out.nc
  have hc2 := h.out.c63
  go_enter Tryz.func126, Tryz.ntmps126
  go_wp2_with fail
  go_loopw [7] (fun i wr => ∃ k : Nat, k ≤ n ∧ i = .int .i64 k ∧ Below w.heap.size w wr ∧ Hid (nz (l.take k) = false)) (fun i _ => (n - intOf i).toNat)
  case atStart => exact ⟨0, by omega, rfl, Below.refl _ _, Lib.hid rfl⟩
  case round =>
    obtain ⟨k, hk, rfl, bw, hz⟩ := hrel
    have hr := Lib.hid (Rd.below h.out bw)
    by_cases hlt : k < n
    · obtain ⟨g, o, x, rfl, hg, hx, cc⟩ := hr.out.byte hlt
      have hck : ¬ c = k := by omega
      go_wp2_with fail
      go_at_call 127
      refine (rune_any (l := l.drop k) (b0 := x) _ (Lib.hid (G.out.below bw)) (Lib.hid (hr.out.tail (by omega))) (Lib.hid (by rw [List.getElem?_drop, Nat.add_zero]; exact hx)) (by omega) (by omega)).mono ?_
      rintro e w1 ⟨q, s, rfl, h0, h1, b1⟩
      have bw1 := bw.trans (b1.mono bw.size)
      by_cases hx0 : x = 0
      · obtain ⟨rfl, rfl⟩ := h0 hx0
        have hz' : Hid (nz (l.take (k + 1)) = false) := by rw [take_snoc hx]; unfold nz; rw [List.any_append]; have := hz.out; unfold nz at this; rw [this, hx0]; exact Lib.hid rfl
        clear hx h0 h1 hx0 hz cc
        go_wp2
        go_roundw
        case rel => exact ⟨k + 1, by omega, by go_num, bw1, hz'⟩
        case measure => simp [intOf]; omega
      · have hq := h1 hx0
        have hq' : decide (q ≠ 0) = true := decide_eq_true hq
        have hnz : Hid (nz l = true) := Lib.hid (List.any_eq_true.2 ⟨x, List.mem_of_getElem? hx, by simpa using hx0⟩)
        clear hx h0 h1 hx0 hz cc
        go_wp2
        go_ret
        exact ⟨_, rfl, ⟨fun _ => hnz.out, fun _ => by omega⟩, bw1⟩
    · obtain rfl : k = n := by omega
      have hnz : Hid (nz l = false) := by have := hz.out; rw [take_n (by have := h.out.len; rw [bv_len] at this; omega)] at this; exact Lib.hid this
      go_wp2
      go_ret
      exact ⟨_, rfl, ⟨fun e => absurd e (by decide), fun e => by rw [hnz.out] at e; cases e⟩, bw⟩
theorem contains_any {A : Option Addr} {n c : Nat} {l : List UInt8} (w : World) (G : Hid (Gl w)) (h : Hid (Rd w 1 A n c (bv l))) (hn : n ≤ 256) :
    Calls Tryz.prog 114 #[.slice A n c, .func (.func 115) #[] #[]] w fun e w' => e = .returned (.bool (nz l)) ∧ Below w.heap.size w w' := by
  have index2 : Calls Tryz.prog 125 #[.slice A n c, .func (.func 115) #[] #[]] w fun e w' => ∃ q : Int, e = .returned (.int .i64 q) ∧ (0 ≤ q ↔ nz l = true) ∧ Below w.heap.size w w' := by
    go_enter Tryz.func125, Tryz.ntmps125
    go_wp2_with fail
    go_at_call 126
    refine (index_any _ G h hn).mono ?_
    rintro e w1 ⟨q, rfl, hq, b1⟩
    go_wp2_with fail
    go_ret
    exact ⟨_, rfl, hq, b1⟩
  go_enter Tryz.func114, Tryz.ntmps114
  go_wp2_with fail
  go_at_call 125
  refine index2.mono ?_
  rintro e w1 ⟨q, rfl, hq, b1⟩
  have e1 : decide (q ≥ 0) = nz l := by rw [Bool.eq_iff_iff, decide_eq_true_eq]; exact hq
  clear hq
  go_wp2_with fail
  go_ret
  exact ⟨by simp [e1], b1⟩
end Go.Proofs.YtpmkohnljngbhaaGreatDoor.Pg
