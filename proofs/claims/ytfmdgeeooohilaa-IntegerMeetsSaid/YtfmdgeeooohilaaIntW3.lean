/- Walks through package integer: products and common divisors. -/
import Derived.Test.YtfmdgeeooohilaaIntW2
namespace Go.Proofs.Ytfmdgeeooohilaa
set_option linter.unusedVariables false
set_option linter.unusedSimpArgs false
open Go.RowKit

theorem ret_ib {k : IntKind} {a b : Int} {c d : Bool} (h : a = b) (g : c = d) : Ending.returned (.tuple #[.int k a, .bool c]) = .returned (.tuple #[.int k b, .bool d]) := by rw [h, g]
theorem signed_neg (m : Int) (w : World) (h1 : 0 ≤ m) (h2 : m ≤ 9223372036854775808) :
    Calls Try.prog 30 #[.int .u64 m, .bool true] w fun e w' => e = .returned (.tuple #[.int .i64 (-m), .bool true]) ∧ w = w' := by
  go_enter Try.func30, Try.ntmps30
  go_wp2
  go_ret2
  exact ⟨ret_ib (by first | rfl | (simp [IntKind.wrap, IntKind.bits, IntKind.signed]; unfold wrap64; omega)) rfl, rfl⟩
theorem signed_pos (m : Int) (w : World) (h1 : 0 ≤ m) (h2 : m ≤ 9223372036854775807) :
    Calls Try.prog 30 #[.int .u64 m, .bool false] w fun e w' => e = .returned (.tuple #[.int .i64 m, .bool true]) ∧ w = w' := by
  go_enter Try.func30, Try.ntmps30
  go_wp2
  go_ret2
  exact ⟨ret_ib (by first | rfl | (simp [IntKind.wrap, IntKind.bits, IntKind.signed]; unfold wrap64; omega)) rfl, rfl⟩
theorem signed_no (m : Int) (b : Bool) (w : World) (h : (b = true ∧ 9223372036854775808 < m) ∨ (b = false ∧ 9223372036854775807 < m)) (h2 : m ≤ 18446744073709551615) :
    Calls Try.prog 30 #[.int .u64 m, .bool b] w fun e w' => e = .returned (.tuple #[.int .i64 0, .bool false]) ∧ w = w' := by
  rcases h with ⟨rfl, h⟩ | ⟨rfl, h⟩
  all_goals
    go_enter Try.func30, Try.ntmps30
    go_wp2
    go_ret2
    exact ⟨rfl, rfl⟩

theorem ret_ml {a b c e : Int} (h : M.ml a b = (c, e)) : Ending.returned (.tuple #[.int .i64 c, .int .i64 e]) = .returned (.tuple #[.int .i64 (M.ml a b).1, .int .i64 (M.ml a b).2]) := by rw [h]
/-- The product with its sign known: neg, and the absolute value's two halves. -/
theorem Mul_any (a b : Int) (w : World) (h1 : -9223372036854775808 ≤ a) (h2 : a ≤ 9223372036854775807) (h3 : -9223372036854775808 ≤ b) (h4 : b ≤ 9223372036854775807) :
    Calls Try.prog 16 #[.int .i64 a, .int .i64 b] w fun e w' => e = .returned (.tuple #[.int .i64 (M.ml a b).1, .int .i64 (M.ml a b).2]) ∧ w = w' := by
  obtain ⟨P, hP⟩ : ∃ P : Nat, P = a.natAbs * b.natAbs := ⟨_, rfl⟩
  obtain ⟨ng, hng, hsg⟩ : ∃ ng : Bool, ((!(decide (a < 0) == decide (b < 0))) = ng ∧ (decide (a < 0) != decide (b < 0)) = ng) ∧ ((ng = true ∧ (P : Int) = -(a * b)) ∨ (ng = false ∧ (P : Int) = a * b)) := by
    by_cases ha : a < 0 <;> by_cases hb : b < 0
    · exact ⟨false, by simp [ha, hb], .inr ⟨rfl, by rw [hP]; exact M.abs_mul_pos (.inr ⟨ha, hb⟩)⟩⟩
    · exact ⟨true, by simp [ha, hb], .inl ⟨rfl, by rw [hP]; exact M.abs_mul_neg (.inr ⟨ha, by omega⟩)⟩⟩
    · exact ⟨true, by simp [ha, hb], .inl ⟨rfl, by rw [hP]; exact M.abs_mul_neg (.inl ⟨by omega, hb⟩)⟩⟩
    · exact ⟨false, by simp [ha, hb], .inr ⟨rfl, by rw [hP]; exact M.abs_mul_pos (.inl ⟨by omega, by omega⟩)⟩⟩
  obtain ⟨hng1, hng2⟩ := hng
  have HP := Lib.hid hP
  have HM : ∀ w, Calls Try.prog 31 #[.int .u64 (a.natAbs : Int), .int .u64 (b.natAbs : Int)] w fun e w' => e = .returned (.tuple #[.int .u64 ((P / 18446744073709551616 : Nat) : Int), .int .u64 ((P % 18446744073709551616 : Nat) : Int)]) ∧ w = w' := fun w => by
    rw [HP.out]; exact (Try.bits_Mul64 a.natAbs b.natAbs (by omega) (by omega) w).mono fun _ _ ⟨he, hw⟩ => ⟨he, hw.symm⟩
  have HMM := Lib.hid HM
  clear HM hP
  obtain ⟨hi, Hhi⟩ : ∃ hi : Nat, Hid (hi = P / 18446744073709551616) := ⟨_, Lib.hid rfl⟩
  obtain ⟨lo, Hlo⟩ : ∃ lo : Nat, Hid (lo = P % 18446744073709551616) := ⟨_, Lib.hid rfl⟩
  have HM2 : ∀ w, Calls Try.prog 31 #[.int .u64 (a.natAbs : Int), .int .u64 (b.natAbs : Int)] w fun e w' => e = .returned (.tuple #[.int .u64 (hi : Int), .int .u64 (lo : Int)]) ∧ w = w' := fun w => by
    rw [Hhi.out, Hlo.out]; exact HMM.out w
  have HMX := Lib.hid HM2
  clear HM2
  have lo1 : (lo : Int) ≤ 18446744073709551615 := by have := Hlo.out; omega
  by_cases hh : hi = 0
  · have hh0 : ((hi : Int) != 0) = false := by simp [hh]
    have PL : Hid (P = lo) := Lib.hid (by have := Hhi.out; have := Hlo.out; omega)
    have HH := Lib.hid hh
    clear hh
    rcases hsg with ⟨rfl, hs⟩ | ⟨rfl, hs⟩
    · by_cases hf : lo ≤ 9223372036854775808
      · have R := Lib.hid (M.ml_ok (a := a) (b := b) (by have := PL.out; omega))
        have HS := Lib.hid hs
        clear hs
        go_enter Try.func16, Try.ntmps16
        go_wp2_with (first
          | (go_at_call 29; refine (size_any _ _ (by omega) (by omega)).mono ?_; rintro e w' ⟨rfl, rfl⟩)
          | (go_at_call 31; refine (HMX.out _).mono ?_; rintro e w' ⟨rfl, rfl⟩)
          | (go_at_call 30; refine (signed_neg _ _ (by omega) (by omega)).mono ?_; rintro e w' ⟨rfl, rfl⟩))
        go_ret2
        exact ⟨(ret_int2 (by have := HS.out; have := PL.out; omega) rfl).trans (ret_ml R.out), rfl⟩
      · have R := Lib.hid (M.ml_big (a := a) (b := b) (by have := PL.out; omega))
        clear hs
        go_enter Try.func16, Try.ntmps16
        go_wp2_with (first
          | (go_at_call 29; refine (size_any _ _ (by omega) (by omega)).mono ?_; rintro e w' ⟨rfl, rfl⟩)
          | (go_at_call 31; refine (HMX.out _).mono ?_; rintro e w' ⟨rfl, rfl⟩)
          | (go_at_call 30; refine (signed_no _ true _ (.inl ⟨rfl, by omega⟩) (by omega)).mono ?_; rintro e w' ⟨rfl, rfl⟩))
        go_ret2
        exact ⟨ret_ml R.out, rfl⟩
    · by_cases hf : lo ≤ 9223372036854775807
      · have R := Lib.hid (M.ml_ok (a := a) (b := b) (by have := PL.out; omega))
        have HS := Lib.hid hs
        clear hs
        go_enter Try.func16, Try.ntmps16
        go_wp2_with (first
          | (go_at_call 29; refine (size_any _ _ (by omega) (by omega)).mono ?_; rintro e w' ⟨rfl, rfl⟩)
          | (go_at_call 31; refine (HMX.out _).mono ?_; rintro e w' ⟨rfl, rfl⟩)
          | (go_at_call 30; refine (signed_pos _ _ (by omega) (by omega)).mono ?_; rintro e w' ⟨rfl, rfl⟩))
        go_ret2
        exact ⟨(ret_int2 (by have := HS.out; have := PL.out; omega) rfl).trans (ret_ml R.out), rfl⟩
      · have R := Lib.hid (M.ml_big (a := a) (b := b) (by have := PL.out; omega))
        clear hs
        go_enter Try.func16, Try.ntmps16
        go_wp2_with (first
          | (go_at_call 29; refine (size_any _ _ (by omega) (by omega)).mono ?_; rintro e w' ⟨rfl, rfl⟩)
          | (go_at_call 31; refine (HMX.out _).mono ?_; rintro e w' ⟨rfl, rfl⟩)
          | (go_at_call 30; refine (signed_no _ false _ (.inr ⟨rfl, by omega⟩) (by omega)).mono ?_; rintro e w' ⟨rfl, rfl⟩))
        go_ret2
        exact ⟨ret_ml R.out, rfl⟩
  · have hh0 : ((hi : Int) != 0) = true := by simp; omega
    have R := Lib.hid (M.ml_big (a := a) (b := b) (by have := Hhi.out; omega))
    clear hh hsg
    have hsig : ∀ w, ∃ p ok, Calls Try.prog 30 #[.int .u64 (lo : Int), .bool ng] w fun e w' => e = .returned (.tuple #[.int .i64 p, .bool ok]) ∧ w = w' := fun w => by
      cases ng
      · by_cases hf : lo ≤ 9223372036854775807
        · exact ⟨_, _, signed_pos _ _ (by omega) (by omega)⟩
        · exact ⟨_, _, signed_no _ false _ (.inr ⟨rfl, by omega⟩) (by omega)⟩
      · by_cases hf : lo ≤ 9223372036854775808
        · exact ⟨_, _, signed_neg _ _ (by omega) (by omega)⟩
        · exact ⟨_, _, signed_no _ true _ (.inl ⟨rfl, by omega⟩) (by omega)⟩
    obtain ⟨p, ok, hso⟩ := hsig w
    have HSO := Lib.hid hso
    clear hsig hso
    go_enter Try.func16, Try.ntmps16
    go_wp2_with (first
      | (go_at_call 29; refine (size_any _ _ (by omega) (by omega)).mono ?_; rintro e w' ⟨rfl, rfl⟩)
      | (go_at_call 31; refine (HMX.out _).mono ?_; rintro e w' ⟨rfl, rfl⟩)
      | (go_at_call 30; refine HSO.out.mono ?_; rintro e w' ⟨rfl, rfl⟩))
    go_ret2
    exact ⟨ret_ml R.out, rfl⟩

theorem Gcd_any (a b : Int) (w : World) (h1 : -9223372036854775808 ≤ a) (h2 : a ≤ 9223372036854775807) (h3 : -9223372036854775808 ≤ b) (h4 : b ≤ 9223372036854775807) :
    Calls Try.prog 14 #[.int .i64 a, .int .i64 b] w fun e w' => e = .returned (.int .i64 (M.gc a b)) ∧ ∃ n, w' = w.drewN n := by
  go_enter Try.func14, Try.ntmps14
  go_wp2_with (go_at_call 29; refine (size_any _ _ (by omega) (by omega)).mono ?_; rintro e w' ⟨rfl, rfl⟩)
  go_loopw [5, 6] (fun p q wr => ∃ x y : Nat, p = .int .u64 x ∧ q = .int .u64 y ∧ x ≤ 9223372036854775808 ∧ y ≤ 9223372036854775808 ∧ Hid (Nat.gcd x y = Nat.gcd a.natAbs b.natAbs) ∧ Hid (∃ n, wr = w.drewN n)) (fun _ q _ => (intOf q).toNat)
  case atStart => exact ⟨a.natAbs, b.natAbs, rfl, rfl, by omega, by omega, Lib.hid rfl, Lib.hid ⟨0, rfl⟩⟩
  case round =>
    obtain ⟨x, y, rfl, rfl, hx, hy, hg, hw⟩ := hrel
    obtain ⟨n0, rfl⟩ := hw.out
    by_cases h0 : y = 0
    · have h00 : ((y : Int) != 0) = false := by simp [h0]
      have hG : Hid (x = Nat.gcd a.natAbs b.natAbs) := Lib.hid (by rw [← hg.out, h0, Nat.gcd_zero_right])
      clear h0
      by_cases hf : x ≤ 9223372036854775807
      · have R := Lib.hid (M.gc_ok (a := a) (b := b) (by have := hG.out; omega))
        go_wp2_with (go_at_call 30; refine (signed_pos _ _ (by omega) (by omega)).mono ?_; rintro e w' ⟨rfl, rfl⟩)
        go_ret
        exact ⟨ret_int (by rw [R.out, ← hG.out]), _, rfl⟩
      · have R := Lib.hid (M.gc_big (a := a) (b := b) (by have := hG.out; omega))
        go_wp2_with (go_at_call 30; refine (signed_no _ false _ (.inr ⟨rfl, by omega⟩) (by omega)).mono ?_; rintro e w' ⟨rfl, rfl⟩)
        go_ret
        exact ⟨ret_int R.out.symm, _, rfl⟩
    · have h00 : ((y : Int) != 0) = true := by simp; omega
      have y1 : (1 : Int) ≤ (y : Int) := by omega
      have hG : Hid (Nat.gcd y (x % y) = Nat.gcd a.natAbs b.natAbs) := Lib.hid (by rw [← hg.out, Nat.gcd_comm y, ← Nat.gcd_rec, Nat.gcd_comm])
      have hm := Nat.mod_lt x (show 0 < y by omega)
      clear h0
      go_wp2
      go_quiet (fail)
      go_wp2
      go_roundw
      case rel => exact ⟨y, x % y, rfl, by simp, hy, by omega, hG, Lib.hid ⟨_, World.drewN_drewN ..⟩⟩
      case measure => simp [intOf]; omega

theorem ret_lc {a b c e : Int} (h : M.lc a b = (c, e)) : Ending.returned (.tuple #[.int .i64 c, .int .i64 e]) = .returned (.tuple #[.int .i64 (M.lc a b).1, .int .i64 (M.lc a b).2]) := by rw [h]
theorem Lcm_any (a b : Int) (w : World) (h1 : -9223372036854775808 ≤ a) (h2 : a ≤ 9223372036854775807) (h3 : -9223372036854775808 ≤ b) (h4 : b ≤ 9223372036854775807) :
    Calls Try.prog 15 #[.int .i64 a, .int .i64 b] w fun e w' => e = .returned (.tuple #[.int .i64 (M.lc a b).1, .int .i64 (M.lc a b).2]) ∧ ∃ n, w' = w.drewN n := by
  by_cases ha : a < 1
  · have R := Lib.hid (M.lc_2 (a := a) (b := b) (.inl ha))
    go_enter Try.func15, Try.ntmps15
    go_wp2; go_ret2
    exact ⟨ret_lc R.out, 0, rfl⟩
  · by_cases hb : b < 1
    · have R := Lib.hid (M.lc_2 (a := a) (b := b) (.inr hb))
      go_enter Try.func15, Try.ntmps15
      go_wp2; go_ret2
      exact ⟨ret_lc R.out, 0, rfl⟩
    · have R := Lib.hid (M.lc_ok (a := a) (b := b) (by omega))
      have g := M.gc_pos' (a := a) (b := b) (by omega) h4
      obtain ⟨g1, g2⟩ := g
      have gz : (M.gc a b == 0) = false := by simp; omega
      have d0 : 0 ≤ b / M.gc a b := Int.ediv_nonneg (by omega) (by omega)
      have d1 : b / M.gc a b ≤ 9223372036854775807 := by have := Int.ediv_le_self (M.gc a b) (show 0 ≤ b by omega); omega
      go_enter Try.func15, Try.ntmps15
      go_wp2_with (first
        | (go_at_call 14; refine (Gcd_any _ _ _ h1 h2 h3 h4).mono ?_; rintro e w' ⟨rfl, n, rfl⟩)
        | (go_at_call 16; refine (Mul_any _ _ _ (by omega) (by omega) (by omega) (by omega)).mono ?_; rintro e w' ⟨rfl, rfl⟩))
      go_ret2
      exact ⟨by rw [R.out]; rfl, _, rfl⟩

end Go.Proofs.Ytfmdgeeooohilaa
