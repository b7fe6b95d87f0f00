/- Walks of page.Sum and of its reference. -/
import Derived.Test.YtphiblmkgbkdmaaDoorProg
import Derived.Test.YtphiblmkgbkdmaaDoorWalMem
import Derived.Test.YtphiblmkgbkdmaaDoorBitW
import Derived.Test.YtphiblmkgbkdmaaDoorPgM
import Derived.LoopTactic
import Derived.Outline
import Derived.Deep.QuietTactic
import Derived.BigQuiet
import Derived.Laws.BitsAllLaws
namespace Go.Proofs.YtphiblmkgbkdmaaDoor.Pg
set_option linter.unusedVariables false
set_option linter.unusedSimpArgs false
open Go.RowKit Wl

theorem x_byte (c : Nat) (x : UInt8) (h : c < 4294967296) : bits .xor .u32 (c : Int) (x.toNat : Int) = ((c ^^^ x.toNat : Nat) : Int) :=
  u32_xor_nat c x.toNat h (by have := x.toNat_lt; omega)
theorem x_poly (c : Nat) (h : c < 4294967296) : bits .xor .u32 (c : Int) 3988292384 = ((c ^^^ 3988292384 : Nat) : Int) :=
  u32_xor_nat c 3988292384 h (by omega)
theorem and_one (y : Nat) (h : y < 4294967296) : bits .and .u32 (y : Int) 1 = ((y % 2 : Nat) : Int) := by
  rw [← Nat.and_one_is_mod]; exact u32_and_nat y 1 h (by omega)
theorem cs_odd {c : Nat} (h : c % 2 = 1) : cs c = (c / 2) ^^^ 3988292384 := by unfold cs; rw [if_pos h]
theorem cs_even {c : Nat} (h : c % 2 ≠ 1) : cs c = c / 2 := by unfold cs; rw [if_neg h]
theorem Sum_any {A : Option Addr} {n c : Nat} {l : List UInt8} (w : World) (hl : Hid (n = l.length)) (h : Hid (Rd w 1 A n c (bv l))) :
    Calls Tryd.prog 12 #[.slice A n c] w fun e w' => e = .returned (.int .u32 (crc l : Nat)) ∧ w = w' := by
  have hc := h.out.nc
  have hc2 := h.out.c63
  go_enter Tryd.func12, Tryd.ntmps12
  go_wp2
  go_loop [3, 9] (fun s i => ∃ k : Nat, k ≤ n ∧ i = .int .i64 k ∧ s = .int .u32 (cf 4294967295 (l.take k) : Nat)) (fun _ i => (n - intOf i).toNat)
  case atStart => exact ⟨0, by omega, rfl, rfl⟩
  case round =>
    obtain ⟨k, hk, rfl, rfl⟩ := hrel
    have hb := cf_lt (c := 4294967295) (by omega) (l.take k)
    obtain ⟨s, hs⟩ : ∃ s, cf 4294967295 (l.take k) = s := ⟨_, rfl⟩
    by_cases hlt : k < n
    · obtain ⟨g, o, x, rfl, hg, hx, hcell⟩ := h.out.byte hlt
      have HS : Hid (cf 4294967295 (l.take (k + 1)) = csN 8 (s ^^^ x.toNat)) := by rw [take_snoc hx, cf_snoc, hs]; exact Lib.hid rfl
      rw [hs] at hb ⊢
      clear hs hx
      have hx := x.toNat_lt
      have hxr := x_byte s x hb
      have hxl := xr_lt hb x
      obtain ⟨t, ht⟩ : ∃ t, s ^^^ x.toNat = t := ⟨_, rfl⟩
      rw [ht] at hxr hxl HS
      clear ht
      go_wp2
      go_loop [3, 17] (fun s j => ∃ m : Nat, m ≤ 8 ∧ j = .int .i64 m ∧ s = .int .u32 (csN m t : Nat)) (fun _ j => (8 - intOf j).toNat)
      case atStart => exact ⟨0, by omega, rfl, rfl⟩
      case round =>
        obtain ⟨m, hm, rfl, rfl⟩ := hrel
        have hb2 := csN_lt m hxl
        have HC := csN_succ m t
        obtain ⟨y, hy⟩ : ∃ y, csN m t = y := ⟨_, rfl⟩
        rw [hy] at hb2 HC ⊢
        by_cases hm8 : m < 8
        · by_cases ho : y % 2 = 1
          · have hp : bits .xor .u32 ((y : Int) / 2) 3988292384 = ((y / 2 ^^^ 3988292384 : Nat) : Int) := x_poly (y / 2) (by omega)
            have ha : bits .and .u32 (y : Int) 1 = 1 := by rw [and_one y hb2, ho]; rfl
            rw [cs_odd ho] at HC
            have HC := Lib.hid HC
            go_wp2
            go_round
            case rel => exact ⟨m + 1, by omega, by go_num, by rw [HC.out]⟩
            case measure => simp [intOf]; omega
          · have ha : bits .and .u32 (y : Int) 1 = 0 := by rw [and_one y hb2, show y % 2 = 0 by omega]; rfl
            rw [cs_even ho] at HC
            have HC := Lib.hid HC
            go_wp2
            go_round
            case rel => exact ⟨m + 1, by omega, by go_num, by rw [HC.out]; rfl⟩
            case measure => simp [intOf]; omega
        · obtain rfl : m = 8 := by omega
          clear HC
          have HS : Hid (cf 4294967295 (List.take (k + 1) l) = y) := by rw [HS.out, hy]; exact Lib.hid rfl
          go_wp2
          go_round
          case rel => exact ⟨k + 1, by omega, by go_num, by rw [HS.out]⟩
          case measure => simp [intOf]; omega
    · obtain rfl : k = n := by omega
      rw [hs] at hb ⊢
      have HS : Hid (crc l = 4294967295 - s) := by rw [← hs, take_n hl.out]; exact Lib.hid rfl
      clear hs
      have hfl := u32_not s hb
      go_wp2
      go_ret
      exact ⟨ret_int (by rw [HS.out]), rfl⟩
theorem rSum_any {A : Option Addr} {n c : Nat} {l : List UInt8} (w : World) (hl : Hid (n = l.length)) (h : Hid (Rd w 1 A n c (bv l))) :
    Calls Tryd.prog 13 #[.slice A n c] w fun e w' => e = .returned (.int .u32 (crc l : Nat)) ∧ w = w' := by
  have hc := h.out.nc
  have hc2 := h.out.c63
  go_enter Tryd.func13, Tryd.ntmps13
  go_wp2
  go_loop [3, 4] (fun s i => ∃ k : Nat, k ≤ n ∧ i = .int .i64 k ∧ s = .int .u32 (cf 4294967295 (l.take k) : Nat)) (fun _ i => (n - intOf i).toNat)
  case atStart => exact ⟨0, by omega, rfl, rfl⟩
  case round =>
    obtain ⟨k, hk, rfl, rfl⟩ := hrel
    have hb := cf_lt (c := 4294967295) (by omega) (l.take k)
    obtain ⟨s, hs⟩ : ∃ s, cf 4294967295 (l.take k) = s := ⟨_, rfl⟩
    by_cases hlt : k < n
    · obtain ⟨g, o, x, rfl, hg, hx, hcell⟩ := h.out.byte hlt
      have HS : Hid (cf 4294967295 (l.take (k + 1)) = csN 8 (s ^^^ x.toNat)) := by rw [take_snoc hx, cf_snoc, hs]; exact Lib.hid rfl
      rw [hs] at hb ⊢
      clear hs hx
      have hx := x.toNat_lt
      have hxr := x_byte s x hb
      have hxl := xr_lt hb x
      obtain ⟨t, ht⟩ : ∃ t, s ^^^ x.toNat = t := ⟨_, rfl⟩
      rw [ht] at hxr hxl HS
      clear ht
      go_wp2
      go_loop [3, 5] (fun s j => ∃ m : Nat, m ≤ 8 ∧ j = .int .i64 m ∧ s = .int .u32 (csN m t : Nat)) (fun _ j => (8 - intOf j).toNat)
      case atStart => exact ⟨0, by omega, rfl, rfl⟩
      case round =>
        obtain ⟨m, hm, rfl, rfl⟩ := hrel
        have hb2 := csN_lt m hxl
        have HC := csN_succ m t
        obtain ⟨y, hy⟩ : ∃ y, csN m t = y := ⟨_, rfl⟩
        rw [hy] at hb2 HC ⊢
        by_cases hm8 : m < 8
        · by_cases ho : y % 2 = 1
          · have hp : bits .xor .u32 ((y : Int) / 2) 3988292384 = ((y / 2 ^^^ 3988292384 : Nat) : Int) := x_poly (y / 2) (by omega)
            have ha : bits .and .u32 (y : Int) 1 = 1 := by rw [and_one y hb2, ho]; rfl
            rw [cs_odd ho] at HC
            have HC := Lib.hid HC
            go_wp2
            go_round
            case rel => exact ⟨m + 1, by omega, by go_num, by rw [HC.out]⟩
            case measure => simp [intOf]; omega
          · have ha : bits .and .u32 (y : Int) 1 = 0 := by rw [and_one y hb2, show y % 2 = 0 by omega]; rfl
            rw [cs_even ho] at HC
            have HC := Lib.hid HC
            go_wp2
            go_round
            case rel => exact ⟨m + 1, by omega, by go_num, by rw [HC.out]; rfl⟩
            case measure => simp [intOf]; omega
        · obtain rfl : m = 8 := by omega
          clear HC
          have HS : Hid (cf 4294967295 (List.take (k + 1) l) = y) := by rw [HS.out, hy]; exact Lib.hid rfl
          go_wp2
          go_round
          case rel => exact ⟨k + 1, by omega, by go_num, by rw [HS.out]⟩
          case measure => simp [intOf]; omega
    · obtain rfl : k = n := by omega
      rw [hs] at hb ⊢
      have HS : Hid (crc l = 4294967295 - s) := by rw [← hs, take_n hl.out]; exact Lib.hid rfl
      clear hs
      have hfl := u32_flip s hb
      go_wp2
      go_ret
      exact ⟨ret_int (by rw [HS.out]), rfl⟩
end Go.Proofs.YtphiblmkgbkdmaaDoor.Pg
