/- Products and common divisors: plain mathematics and walks. -/
import Derived.Test.YtainibnjpkbfpaaIntW
import Derived.Test.YtainibnjpkbfpaaRefI
import Derived.Test.YtainibnjpkbfpaaShelf
namespace Go.Proofs.Ytainibnjpkbfpaa.M
set_option linter.unusedVariables false
set_option linter.unusedSimpArgs false

theorem gc_some {a b : Int} (h : gc a b ≠ 0) : 0 < gc a b ∧ gc a b ≤ 9223372036854775807 ∧ gc a b ∣ a ∧ gc a b ∣ b ∧ ∀ d : Int, d ∣ a → d ∣ b → d ∣ gc a b := by
  by_cases hN : Nat.gcd a.natAbs b.natAbs ≤ 9223372036854775807
  · rw [gc_ok hN] at h ⊢
    refine ⟨by omega, by omega, ?_, ?_, fun d h1 h2 => ?_⟩
    · rw [← Int.natAbs_dvd_natAbs, Int.natAbs_natCast]; exact Nat.gcd_dvd_left _ _
    · rw [← Int.natAbs_dvd_natAbs, Int.natAbs_natCast]; exact Nat.gcd_dvd_right _ _
    · rw [← Int.natAbs_dvd_natAbs, Int.natAbs_natCast]
      exact Nat.dvd_gcd (Int.natAbs_dvd_natAbs.2 h1) (Int.natAbs_dvd_natAbs.2 h2)
  · exact absurd (gc_big hN) h
theorem lc_cases {a b : Int} (h1 : 1 ≤ a) (h2 : a ≤ 9223372036854775807) (h3 : 1 ≤ b) (h4 : b ≤ 9223372036854775807) : 1 ≤ gc a b ∧ gc a b ≤ a ∧ gc a b ≤ b ∧
    ((∃ l, lc a b = (l, 0) ∧ 1 ≤ l ∧ l ≤ 9223372036854775807 ∧ l % a = 0 ∧ l % b = 0 ∧ l / a = b / gc a b) ∨ (lc a b = (0, 9) ∧ ml (a / gc a b) b = (0, 9))) := by
  have p1 := gc_pos (b := b) h1 h2
  have p2 := gc_pos' (a := a) h3 h4
  obtain ⟨_, _, d1, d2, _⟩ := gc_some (a := a) (b := b) (by omega)
  refine ⟨p1.1, p1.2, p2.2, ?_⟩
  rw [lc_ok (by omega)]
  obtain ⟨g, hg⟩ : ∃ g, gc a b = g := ⟨_, rfl⟩
  rw [hg] at p1 p2 d1 d2 ⊢
  obtain ⟨a', ha⟩ := d1
  obtain ⟨b', hb⟩ := d2
  have e1 : a / g = a' := by rw [ha]; exact Int.mul_ediv_cancel_left _ (by omega)
  have e2 : b / g = b' := by rw [hb]; exact Int.mul_ediv_cancel_left _ (by omega)
  have e3 : a' * b = a * b' := by rw [ha, hb, Int.mul_left_comm, Int.mul_assoc]
  have b1 : 1 ≤ b' := by rw [← e2]; exact Int.le_ediv_of_mul_le (by omega) (by omega)
  have l1 : 1 * 1 ≤ a * b' := Int.mul_le_mul h1 b1 (by omega) (by omega)
  by_cases hf : -9223372036854775808 ≤ a * b' ∧ a * b' ≤ 9223372036854775807
  · left
    rw [e2, ml_ok hf]
    refine ⟨_, rfl, by omega, hf.2, Int.mul_emod_right _ _, ?_, Int.mul_ediv_cancel_left _ (by omega)⟩
    rw [← e3]; exact Int.mul_emod_left _ _
  · right
    rw [e1, e2, ml_big hf, ml_big (by rw [e3]; exact hf)]
    exact ⟨rfl, rfl⟩

end Go.Proofs.Ytainibnjpkbfpaa.M
namespace Go.Proofs.Ytainibnjpkbfpaa
open Go.RowKit

theorem size_any (n : Int) (w : World) (h1 : -9223372036854775808 ≤ n) (h2 : n ≤ 9223372036854775807) : Calls Try.prog 90 #[.int .i64 n] w fun e w' => e = .returned (.int .u64 n.natAbs) ∧ w = w' := by
  by_cases h : n < 0
  · go_enter Try.func90, Try.ntmps90
    go_wp2
    go_ret
    exact ⟨ret_int (by first | omega | (simp [IntKind.wrap, IntKind.bits, IntKind.signed]; omega)), rfl⟩
  · go_enter Try.func90, Try.ntmps90
    go_wp2
    go_ret
    exact ⟨ret_int (by first | omega | (simp [IntKind.wrap, IntKind.bits, IntKind.signed]; omega)), rfl⟩

theorem ret_ib {k : IntKind} {a b : Int} {c d : Bool} (h : a = b) (g : c = d) : Ending.returned (.tuple #[.int k a, .bool c]) = .returned (.tuple #[.int k b, .bool d]) := by rw [h, g]
theorem signed_neg (m : Int) (w : World) (h1 : 0 ≤ m) (h2 : m ≤ 9223372036854775808) :
    Calls Try.prog 91 #[.int .u64 m, .bool true] w fun e w' => e = .returned (.tuple #[.int .i64 (-m), .bool true]) ∧ w = w' := by
  go_enter Try.func91, Try.ntmps91
  go_wp2
  go_ret2
  exact ⟨ret_ib (by first | rfl | (simp [IntKind.wrap, IntKind.bits, IntKind.signed]; unfold wrap64; omega)) rfl, rfl⟩
theorem signed_pos (m : Int) (w : World) (h1 : 0 ≤ m) (h2 : m ≤ 9223372036854775807) :
    Calls Try.prog 91 #[.int .u64 m, .bool false] w fun e w' => e = .returned (.tuple #[.int .i64 m, .bool true]) ∧ w = w' := by
  go_enter Try.func91, Try.ntmps91
  go_wp2
  go_ret2
  exact ⟨ret_ib (by first | rfl | (simp [IntKind.wrap, IntKind.bits, IntKind.signed]; unfold wrap64; omega)) rfl, rfl⟩
theorem signed_no (m : Int) (b : Bool) (w : World) (h : (b = true ∧ 9223372036854775808 < m) ∨ (b = false ∧ 9223372036854775807 < m)) (h2 : m ≤ 18446744073709551615) :
    Calls Try.prog 91 #[.int .u64 m, .bool b] w fun e w' => e = .returned (.tuple #[.int .i64 0, .bool false]) ∧ w = w' := by
  rcases h with ⟨rfl, h⟩ | ⟨rfl, h⟩
  all_goals
    go_enter Try.func91, Try.ntmps91
    go_wp2
    go_ret2
    exact ⟨rfl, rfl⟩

/-- The product with its sign known: neg, and the absolute value's two halves. -/
theorem Mul_any (a b : Int) (w : World) (h1 : -9223372036854775808 ≤ a) (h2 : a ≤ 9223372036854775807) (h3 : -9223372036854775808 ≤ b) (h4 : b ≤ 9223372036854775807) :
    Calls Try.prog 86 #[.int .i64 a, .int .i64 b] w fun e w' => e = .returned (.tuple #[.int .i64 (M.ml a b).1, .int .i64 (M.ml a b).2]) ∧ w = w' := by
  obtain ⟨P, hP⟩ : ∃ P : Nat, P = a.natAbs * b.natAbs := ⟨_, rfl⟩
  obtain ⟨ng, hng, hsg⟩ : ∃ ng : Bool, ((!(decide (a < 0) == decide (b < 0))) = ng ∧ (decide (a < 0) != decide (b < 0)) = ng) ∧ ((ng = true ∧ (P : Int) = -(a * b)) ∨ (ng = false ∧ (P : Int) = a * b)) := by
    by_cases ha : a < 0 <;> by_cases hb : b < 0
    · exact ⟨false, by simp [ha, hb], .inr ⟨rfl, by rw [hP]; exact M.abs_mul_pos (.inr ⟨ha, hb⟩)⟩⟩
    · exact ⟨true, by simp [ha, hb], .inl ⟨rfl, by rw [hP]; exact M.abs_mul_neg (.inr ⟨ha, by omega⟩)⟩⟩
    · exact ⟨true, by simp [ha, hb], .inl ⟨rfl, by rw [hP]; exact M.abs_mul_neg (.inl ⟨by omega, hb⟩)⟩⟩
    · exact ⟨false, by simp [ha, hb], .inr ⟨rfl, by rw [hP]; exact M.abs_mul_pos (.inl ⟨by omega, by omega⟩)⟩⟩
  obtain ⟨hng1, hng2⟩ := hng
  have HP := Lib.hid hP
  have HM : ∀ w, Calls Try.prog 89 #[.int .u64 (a.natAbs : Int), .int .u64 (b.natAbs : Int)] w fun e w' => e = .returned (.tuple #[.int .u64 ((P / 18446744073709551616 : Nat) : Int), .int .u64 ((P % 18446744073709551616 : Nat) : Int)]) ∧ w = w' := fun w => by
    rw [HP.out]; exact (Try.bits_Mul64 a.natAbs b.natAbs (by omega) (by omega) w).mono fun _ _ ⟨he, hw⟩ => ⟨he, hw.symm⟩
  have HMM := Lib.hid HM
  clear HM hP
  obtain ⟨hi, Hhi⟩ : ∃ hi : Nat, Hid (hi = P / 18446744073709551616) := ⟨_, Lib.hid rfl⟩
  obtain ⟨lo, Hlo⟩ : ∃ lo : Nat, Hid (lo = P % 18446744073709551616) := ⟨_, Lib.hid rfl⟩
  have HM2 : ∀ w, Calls Try.prog 89 #[.int .u64 (a.natAbs : Int), .int .u64 (b.natAbs : Int)] w fun e w' => e = .returned (.tuple #[.int .u64 (hi : Int), .int .u64 (lo : Int)]) ∧ w = w' := fun w => by
    rw [Hhi.out, Hlo.out]; exact HMM.out w
  have HMX := Lib.hid HM2
  clear HM2
  have lo1 : (lo : Int) ≤ 18446744073709551615 := by have := Hlo.out; omega
  by_cases hh : hi = 0
  · have hh0 : ((hi : Int) != 0) = false := by simp [hh]
    have PL : Hid (P = lo) := Lib.hid (by have := Hhi.out; have := Hlo.out; omega)
    have HH := Lib.hid hh
    clear hh
    rcases hsg with ⟨rfl, hs⟩ | ⟨rfl, hs⟩
    · by_cases hf : lo ≤ 9223372036854775808
      · have R := Lib.hid (M.ml_ok (a := a) (b := b) (by have := PL.out; omega))
        have HS := Lib.hid hs
        clear hs
        go_enter Try.func86, Try.ntmps86
        go_wp2_with (first
          | (go_at_call 90; refine (size_any _ _ (by omega) (by omega)).mono ?_; rintro e w' ⟨rfl, rfl⟩)
          | (go_at_call 89; refine (HMX.out _).mono ?_; rintro e w' ⟨rfl, rfl⟩)
          | (go_at_call 91; refine (signed_neg _ _ (by omega) (by omega)).mono ?_; rintro e w' ⟨rfl, rfl⟩))
        go_ret2
        exact ⟨(ret_int2 (by have := HS.out; have := PL.out; omega) rfl).trans (ret_ml R.out), rfl⟩
      · have R := Lib.hid (M.ml_big (a := a) (b := b) (by have := PL.out; omega))
        clear hs
        go_enter Try.func86, Try.ntmps86
        go_wp2_with (first
          | (go_at_call 90; refine (size_any _ _ (by omega) (by omega)).mono ?_; rintro e w' ⟨rfl, rfl⟩)
          | (go_at_call 89; refine (HMX.out _).mono ?_; rintro e w' ⟨rfl, rfl⟩)
          | (go_at_call 91; refine (signed_no _ true _ (.inl ⟨rfl, by omega⟩) (by omega)).mono ?_; rintro e w' ⟨rfl, rfl⟩))
        go_ret2
        exact ⟨ret_ml R.out, rfl⟩
    · by_cases hf : lo ≤ 9223372036854775807
      · have R := Lib.hid (M.ml_ok (a := a) (b := b) (by have := PL.out; omega))
        have HS := Lib.hid hs
        clear hs
        go_enter Try.func86, Try.ntmps86
        go_wp2_with (first
          | (go_at_call 90; refine (size_any _ _ (by omega) (by omega)).mono ?_; rintro e w' ⟨rfl, rfl⟩)
          | (go_at_call 89; refine (HMX.out _).mono ?_; rintro e w' ⟨rfl, rfl⟩)
          | (go_at_call 91; refine (signed_pos _ _ (by omega) (by omega)).mono ?_; rintro e w' ⟨rfl, rfl⟩))
        go_ret2
        exact ⟨(ret_int2 (by have := HS.out; have := PL.out; omega) rfl).trans (ret_ml R.out), rfl⟩
      · have R := Lib.hid (M.ml_big (a := a) (b := b) (by have := PL.out; omega))
        clear hs
        go_enter Try.func86, Try.ntmps86
        go_wp2_with (first
          | (go_at_call 90; refine (size_any _ _ (by omega) (by omega)).mono ?_; rintro e w' ⟨rfl, rfl⟩)
          | (go_at_call 89; refine (HMX.out _).mono ?_; rintro e w' ⟨rfl, rfl⟩)
          | (go_at_call 91; refine (signed_no _ false _ (.inr ⟨rfl, by omega⟩) (by omega)).mono ?_; rintro e w' ⟨rfl, rfl⟩))
        go_ret2
        exact ⟨ret_ml R.out, rfl⟩
  · have hh0 : ((hi : Int) != 0) = true := by simp; omega
    have R := Lib.hid (M.ml_big (a := a) (b := b) (by have := Hhi.out; omega))
    clear hh hsg
    have hsig : ∀ w, ∃ p ok, Calls Try.prog 91 #[.int .u64 (lo : Int), .bool ng] w fun e w' => e = .returned (.tuple #[.int .i64 p, .bool ok]) ∧ w = w' := fun w => by
      cases ng
      · by_cases hf : lo ≤ 9223372036854775807
        · exact ⟨_, _, signed_pos _ _ (by omega) (by omega)⟩
        · exact ⟨_, _, signed_no _ false _ (.inr ⟨rfl, by omega⟩) (by omega)⟩
      · by_cases hf : lo ≤ 9223372036854775808
        · exact ⟨_, _, signed_neg _ _ (by omega) (by omega)⟩
        · exact ⟨_, _, signed_no _ true _ (.inl ⟨rfl, by omega⟩) (by omega)⟩
    obtain ⟨p, ok, hso⟩ := hsig w
    have HSO := Lib.hid hso
    clear hsig hso
    go_enter Try.func86, Try.ntmps86
    go_wp2_with (first
      | (go_at_call 90; refine (size_any _ _ (by omega) (by omega)).mono ?_; rintro e w' ⟨rfl, rfl⟩)
      | (go_at_call 89; refine (HMX.out _).mono ?_; rintro e w' ⟨rfl, rfl⟩)
      | (go_at_call 91; refine HSO.out.mono ?_; rintro e w' ⟨rfl, rfl⟩))
    go_ret2
    exact ⟨ret_ml R.out, rfl⟩

theorem Gcd_any (a b : Int) (w : World) (h1 : -9223372036854775808 ≤ a) (h2 : a ≤ 9223372036854775807) (h3 : -9223372036854775808 ≤ b) (h4 : b ≤ 9223372036854775807) :
    Calls Try.prog 87 #[.int .i64 a, .int .i64 b] w fun e w' => e = .returned (.int .i64 (M.gc a b)) ∧ ∃ n, w' = w.drewN n := by
  go_enter Try.func87, Try.ntmps87
  go_wp2_with (go_at_call 90; refine (size_any _ _ (by omega) (by omega)).mono ?_; rintro e w' ⟨rfl, rfl⟩)
  go_loopw [5, 6] (fun p q wr => ∃ x y : Nat, p = .int .u64 x ∧ q = .int .u64 y ∧ x ≤ 9223372036854775808 ∧ y ≤ 9223372036854775808 ∧ Hid (Nat.gcd x y = Nat.gcd a.natAbs b.natAbs) ∧ Hid (∃ n, wr = w.drewN n)) (fun _ q _ => (intOf q).toNat)
  case atStart => exact ⟨a.natAbs, b.natAbs, rfl, rfl, by omega, by omega, Lib.hid rfl, Lib.hid ⟨0, rfl⟩⟩
  case round =>
    obtain ⟨x, y, rfl, rfl, hx, hy, hg, hw⟩ := hrel
    obtain ⟨n0, rfl⟩ := hw.out
    by_cases h0 : y = 0
    · have h00 : ((y : Int) != 0) = false := by simp [h0]
      have hG : Hid (x = Nat.gcd a.natAbs b.natAbs) := Lib.hid (by rw [← hg.out, h0, Nat.gcd_zero_right])
      clear h0
      by_cases hf : x ≤ 9223372036854775807
      · have R := Lib.hid (M.gc_ok (a := a) (b := b) (by have := hG.out; omega))
        go_wp2_with (go_at_call 91; refine (signed_pos _ _ (by omega) (by omega)).mono ?_; rintro e w' ⟨rfl, rfl⟩)
        go_ret
        exact ⟨ret_int (by rw [R.out, ← hG.out]), _, rfl⟩
      · have R := Lib.hid (M.gc_big (a := a) (b := b) (by have := hG.out; omega))
        go_wp2_with (go_at_call 91; refine (signed_no _ false _ (.inr ⟨rfl, by omega⟩) (by omega)).mono ?_; rintro e w' ⟨rfl, rfl⟩)
        go_ret
        exact ⟨ret_int R.out.symm, _, rfl⟩
    · have h00 : ((y : Int) != 0) = true := by simp; omega
      have y1 : (1 : Int) ≤ (y : Int) := by omega
      have hG : Hid (Nat.gcd y (x % y) = Nat.gcd a.natAbs b.natAbs) := Lib.hid (by rw [← hg.out, Nat.gcd_comm y, ← Nat.gcd_rec, Nat.gcd_comm])
      have hm := Nat.mod_lt x (show 0 < y by omega)
      clear h0
      go_wp2
      go_quiet (fail)
      go_wp2
      go_roundw
      case rel => exact ⟨y, x % y, rfl, by simp, hy, by omega, hG, Lib.hid ⟨_, World.drewN_drewN ..⟩⟩
      case measure => simp [intOf]; omega

theorem ret_lc {a b c e : Int} (h : M.lc a b = (c, e)) : Ending.returned (.tuple #[.int .i64 c, .int .i64 e]) = .returned (.tuple #[.int .i64 (M.lc a b).1, .int .i64 (M.lc a b).2]) := by rw [h]
theorem Lcm_any (a b : Int) (w : World) (h1 : -9223372036854775808 ≤ a) (h2 : a ≤ 9223372036854775807) (h3 : -9223372036854775808 ≤ b) (h4 : b ≤ 9223372036854775807) :
    Calls Try.prog 83 #[.int .i64 a, .int .i64 b] w fun e w' => e = .returned (.tuple #[.int .i64 (M.lc a b).1, .int .i64 (M.lc a b).2]) ∧ ∃ n, w' = w.drewN n := by
  by_cases ha : a < 1
  · have R := Lib.hid (M.lc_2 (a := a) (b := b) (.inl ha))
    go_enter Try.func83, Try.ntmps83
    go_wp2; go_ret2
    exact ⟨ret_lc R.out, 0, rfl⟩
  · by_cases hb : b < 1
    · have R := Lib.hid (M.lc_2 (a := a) (b := b) (.inr hb))
      go_enter Try.func83, Try.ntmps83
      go_wp2; go_ret2
      exact ⟨ret_lc R.out, 0, rfl⟩
    · have R := Lib.hid (M.lc_ok (a := a) (b := b) (by omega))
      have g := M.gc_pos' (a := a) (b := b) (by omega) h4
      obtain ⟨g1, g2⟩ := g
      have gz : (M.gc a b == 0) = false := by simp; omega
      have d0 : 0 ≤ b / M.gc a b := Int.ediv_nonneg (by omega) (by omega)
      have d1 : b / M.gc a b ≤ 9223372036854775807 := by have := Int.ediv_le_self (M.gc a b) (show 0 ≤ b by omega); omega
      go_enter Try.func83, Try.ntmps83
      go_wp2_with (first
        | (go_at_call 87; refine (Gcd_any _ _ _ h1 h2 h3 h4).mono ?_; rintro e w' ⟨rfl, n, rfl⟩)
        | (go_at_call 86; refine (Mul_any _ _ _ (by omega) (by omega) (by omega) (by omega)).mono ?_; rintro e w' ⟨rfl, rfl⟩))
      go_ret2
      exact ⟨by rw [R.out]; rfl, _, rfl⟩

theorem rGcd_pos (a b : Int) (w : World) (h1 : 1 ≤ a) (h2 : a ≤ 9223372036854775807) (h3 : 1 ≤ b) (h4 : b ≤ 9223372036854775807) :
    Calls Try.prog 88 #[.int .i64 a, .int .i64 b] w fun e w' => e = .returned (.int .i64 (M.gc a b)) ∧ ∃ n, w' = w.drewN n := by
  obtain ⟨A, rfl⟩ := Int.eq_ofNat_of_zero_le (show 0 ≤ a by omega)
  obtain ⟨B, rfl⟩ := Int.eq_ofNat_of_zero_le (show 0 ≤ b by omega)
  have hle : Nat.gcd A B ≤ A := Nat.gcd_le_left _ (by omega)
  have G : Hid (M.gc A B = (Nat.gcd A B : Nat)) := Lib.hid (by rw [M.gc_ok (by simp only [Int.natAbs_natCast]; omega)]; simp only [Int.natAbs_natCast])
  clear hle
  go_enter Try.func88, Try.ntmps88
  go_wp2
  go_loopw [0, 1] (fun x y wr => (∃ q, wr = w.drewN q) ∧ ∃ X Y : Nat, x = .int .i64 X ∧ y = .int .i64 Y ∧ (X : Int) ≤ 9223372036854775807 ∧ (Y : Int) ≤ 9223372036854775807 ∧ Hid (Nat.gcd X Y = Nat.gcd A B)) (fun _ y _ => (intOf y).toNat)
  case atStart => exact ⟨⟨0, rfl⟩, A, B, rfl, rfl, h2, h4, Lib.hid rfl⟩
  case round =>
    obtain ⟨⟨q, rfl⟩, X, Y, rfl, rfl, hX, hY, hg⟩ := hrel
    by_cases hz : Y = 0
    · have y0 : ((Y : Int) != 0) = false := by simp [hz]
      have R : Hid ((X : Int) = M.gc A B) := Lib.hid (by rw [G.out, ← hg.out, hz, Nat.gcd_zero_right])
      have xm : ((X : Int) == -9223372036854775808) = false := by simp
      clear hz
      go_wp2
      go_ret
      exact ⟨ret_int R.out, _, rfl⟩
    · have y0 : ((Y : Int) != 0) = true := by simp [hz]
      have ym : ((Y : Int) == -1) = false := by simp
      have nx : Hid (Nat.gcd Y (X % Y) = Nat.gcd A B) := Lib.hid (by rw [← hg.out, Nat.gcd_comm X Y, Nat.gcd_rec Y X, Nat.gcd_comm])
      have hlt : X % Y < Y := Nat.mod_lt _ (by omega)
      have e : ((X : Int) % (Y : Int)) = ((X % Y : Nat) : Int) := by simp
      have yne : (Y : Int) ≠ 0 := by omega
      clear hz
      go_wp2
      go_quiet (fail)
      go_wp2
      go_roundw
      case rel => exact ⟨⟨_, World.drewN_drewN ..⟩, Y, X % Y, rfl, by first | rfl | (rw [e]) | simp, hY, by omega, nx⟩
      case measure => simp [intOf]; omega

theorem rMul_atx {a b l e : Int} (w : World) (h1 : -9223372036854775808 ≤ a) (h2 : a ≤ 9223372036854775807) (h3 : -9223372036854775808 ≤ b) (h4 : b ≤ 9223372036854775807)
    (h : Hid (M.ml a b = (l, e))) :
    Calls Try.prog 59 #[.int .i64 a, .int .i64 b] w fun x w' => x = .returned (.tuple #[.int .i64 l, .int .i64 e]) ∧ ∃ n, w' = w.drewN n :=
  (rMul_any a b w h1 h2 h3 h4).mono fun _ _ ⟨he, hw⟩ => ⟨he.trans (by rw [h.out]), hw⟩

theorem rLcm_at {m n l e : Int} (w : World) (h1 : -9223372036854775808 ≤ m) (h2 : m ≤ 9223372036854775807) (h3 : -9223372036854775808 ≤ n) (h4 : n ≤ 9223372036854775807) (h : Hid (M.lc m n = (l, e))) :
    Calls Try.prog 84 #[.int .i64 m, .int .i64 n] w fun x w' => x = .returned (.tuple #[.int .i64 l, .int .i64 e]) ∧ ∃ j, w' = w.drewN j := by
  by_cases hb : m < 1 ∨ n < 1
  · have hh := h.out
    rw [M.lc_2 hb] at hh
    injection hh with hh1 hh2
    subst hh1 hh2
    have hb' : m < 1 ∨ (1 ≤ m ∧ n < 1) := by omega
    clear hb
    rcases hb' with hm | ⟨hm, hn⟩
    all_goals
      go_enter Try.func84, Try.ntmps84
      go_wp2
      go_ret2
      exact ⟨rfl, 0, rfl⟩
  · have hm : 1 ≤ m := by omega
    have hn : 1 ≤ n := by omega
    obtain ⟨g1, g2, g3, hc⟩ := M.lc_cases hm h2 hn h4
    obtain ⟨_, _, d1, d2, _⟩ := M.gc_some (a := m) (b := n) (by omega)
    obtain ⟨g, hg⟩ : ∃ g, M.gc m n = g := ⟨_, rfl⟩
    rw [hg] at g1 g2 g3 d1 d2
    have ML : Hid (M.ml (m / g) n = (l, e)) := Lib.hid (by
      have hh := h.out
      rw [M.lc_ok hb, hg] at hh
      obtain ⟨m', hm'⟩ := d1
      obtain ⟨n', hn'⟩ := d2
      have e1 : m / g = m' := by rw [hm']; exact Int.mul_ediv_cancel_left _ (by omega)
      have e2 : n / g = n' := by rw [hn']; exact Int.mul_ediv_cancel_left _ (by omega)
      have e3 : m' * n = m * n' := by rw [hm', hn', Int.mul_left_comm, Int.mul_assoc]
      rw [e2] at hh
      rw [e1]
      unfold M.ml at hh ⊢
      rw [e3]; exact hh)
    have q1 : 0 ≤ m / g := Int.ediv_nonneg (by omega) (by omega)
    have q2 : m / g ≤ m := Int.ediv_le_self _ (by omega)
    have HG : Hid (∀ w, Calls Try.prog 88 #[.int .i64 m, .int .i64 n] w fun e w' => e = .returned (.int .i64 g) ∧ ∃ j, w' = w.drewN j) := Lib.hid fun w => hg ▸ rGcd_pos m n w hm h2 hn h4
    clear hb hc hg d1 d2
    go_enter Try.func84, Try.ntmps84
    go_wp2_with (first
      | (go_at_call 88; refine (HG.out _).mono ?_; rintro e w' ⟨rfl, j1, rfl⟩)
      | (go_at_call 59; refine (rMul_atx _ (by omega) (by omega) h3 h4 ML).mono ?_; rintro e w' ⟨rfl, j2, rfl⟩))
    go_ret2
    exact ⟨rfl, _, rfl⟩

end Go.Proofs.Ytainibnjpkbfpaa
