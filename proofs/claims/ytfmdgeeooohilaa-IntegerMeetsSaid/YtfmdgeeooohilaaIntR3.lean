/- Walks through the reference of integer: products and inverses modulo a number, and congruences. -/
import Derived.Test.YtfmdgeeooohilaaIntR2
namespace Go.Proofs.Ytfmdgeeooohilaa
set_option linter.unusedVariables false
set_option linter.unusedSimpArgs false
open Go.RowKit

theorem times_any (a b m : Int) (w : World) (h1 : 0 ≤ a) (h2 : a < m) (h3 : 0 ≤ b) (h4 : b ≤ 9223372036854775807) (h5 : m ≤ 9223372036854775807) :
    Calls Try.prog 37 #[.int .i64 a, .int .i64 b, .int .i64 m] w fun e w' => e = .returned (.int .i64 (a * b % m)) ∧ w = w' := by
  have m0 : m ≠ 0 := by omega
  go_enter Try.func37, Try.ntmps37
  go_wp2
  go_loop [7, 8, 1] (fun o x b' => ∃ O X B : Int, o = .int .u64 O ∧ x = .int .u64 X ∧ b' = .int .i64 B ∧ 0 ≤ O ∧ O < m ∧ 0 ≤ X ∧ X < m ∧ 0 ≤ B ∧ B ≤ 9223372036854775807 ∧ Hid (m ∣ O + X * B - a * b)) (fun _ _ b => (intOf b).toNat)
  case atStart => exact ⟨0, a, b, rfl, rfl, rfl, by omega, by omega, h1, h2, h3, h4, Lib.hid (by rw [Int.zero_add, Int.sub_self]; exact Int.dvd_zero m)⟩
  case round =>
    obtain ⟨O, X, B, rfl, rfl, rfl, o0, o1, x0, x1, b0, b1, hd⟩ := hrel
    by_cases hB : 0 < B
    · have s0 := Int.emod_nonneg (X + X) m0
      have s1 := Int.emod_lt_of_pos (X + X) (show 0 < m by omega)
      have p0 := Int.emod_nonneg (O + X) m0
      have p1 := Int.emod_lt_of_pos (O + X) (show 0 < m by omega)
      have dx : Hid (m ∣ (X + X) - (X + X) % m) := Lib.hid (M.dvd_sub_emod _ _)
      have d9 : Hid (m ∣ (O + X) - (O + X) % m) := Lib.hid (M.dvd_sub_emod _ _)
      obtain ⟨B2, hB2⟩ : ∃ B2, B / 2 = B2 := ⟨_, rfl⟩
      have b20 : 0 ≤ B2 := by omega
      have b21 : B2 < B := by omega
      by_cases hodd : B % 2 = 1
      · have e1 : (B % 2 == 1) = true := by simp [hodd]
        have nx : Hid (m ∣ (O + X) % m + (X + X) % m * B2 - a * b) := Lib.hid (by
          have hBB : B = 2 * B2 + 1 := by omega
          have h := Int.dvd_sub (Int.dvd_sub hd.out d9.out) (Int.dvd_trans dx.out (Int.dvd_mul_right _ B2))
          rw [hBB, show O + X * (2 * B2 + 1) - a * b - (O + X - (O + X) % m) - (X + X - (X + X) % m) * B2 = (O + X) % m + (X + X) % m * B2 - a * b by grind] at h
          exact h)
        clear hodd
        go_wp2
        go_round
        case rel => exact ⟨_, _, B2, rfl, rfl, by rw [hB2], p0, p1, s0, s1, b20, by omega, nx⟩
        case measure => simp [intOf]; omega
      · have e1 : (B % 2 == 1) = false := by simp; omega
        have nx : Hid (m ∣ O + (X + X) % m * B2 - a * b) := Lib.hid (by
          have hBB : B = 2 * B2 := by omega
          have h := Int.dvd_sub hd.out (Int.dvd_trans dx.out (Int.dvd_mul_right _ B2))
          rw [hBB, show O + X * (2 * B2) - a * b - (X + X - (X + X) % m) * B2 = O + (X + X) % m * B2 - a * b by grind] at h
          exact h)
        clear hodd
        go_wp2
        go_round
        case rel => exact ⟨_, _, B2, rfl, rfl, by rw [hB2], o0, o1, s0, s1, b20, by omega, nx⟩
        case measure => simp [intOf]; omega
    · have hB0 : B = 0 := by omega
      have R : Hid (O = a * b % m) := Lib.hid (by
        have h := hd.out
        rw [hB0, Int.mul_zero, Int.add_zero] at h
        have e := M.emod_eq_of_dvd h
        rw [Int.emod_eq_of_lt o0 o1] at e
        exact e)
      subst hB0
      go_wp2
      go_ret
      exact ⟨ret_int R.out, rfl⟩

theorem rinverse_any (a n : Int) (w : World) (h1 : 0 ≤ a) (h2 : a < n) (h4 : n ≤ 9223372036854775807) (hg : Hid (Nat.gcd a.natAbs n.natAbs = 1)) :
    Calls Try.prog 38 #[.int .i64 a, .int .i64 n] w fun e w' => e = .returned (.int .i64 (M.inv a n)) ∧ ∃ j, w' = w.drewN j := by
  by_cases hn : n = 1
  · have n1 : (n == 1) = true := by simp [hn]
    have R : Hid (M.inv a n = 0) := Lib.hid (M.inv_eq hg.out ⟨by omega, by omega, by rw [hn]; exact Int.one_dvd _⟩)
    clear hn
    go_enter Try.func38, Try.ntmps38
    go_wp2
    go_ret
    exact ⟨ret_int R.out.symm, 0, rfl⟩
  · have n1 : (n == 1) = false := by simp [hn]
    have a1 : 1 ≤ a := by
      rcases Int.lt_or_le 0 a with h | h
      · omega
      · have h0 : a = 0 := by omega
        have := hg.out
        rw [h0] at this
        simp at this
        omega
    have hn0 : n ≠ 0 := by omega
    have em : a % n = a := Int.emod_eq_of_lt h1 h2
    have st : Hid (M.Euc a n n a 0 1) := Lib.hid ⟨by omega, by omega, h1, by simp, by simp, by simp, by omega, by rw [Nat.gcd_comm]; exact hg.out⟩
    clear hn
    go_enter Try.func38, Try.ntmps38
    go_wp2
    go_quiet (fail)
    go_wp2
    go_loopw [5, 6, 7, 8, 9] (fun r s x y _ wr => (∃ q, wr = w.drewN q) ∧ ∃ R S X Y : Int, r = .int .i64 R ∧ s = .int .i64 S ∧ x = .int .i64 X ∧ y = .int .i64 Y ∧ R ≤ 9223372036854775807 ∧ 1 ≤ S ∧ S ≤ 9223372036854775807 ∧ (X.natAbs : Int) ≤ n ∧ (Y.natAbs : Int) ≤ n ∧ Hid (M.Euc a n R S X Y)) (fun _ s _ _ _ _ => (intOf s).toNat)
    case atStart => exact ⟨⟨_, rfl⟩, n, a, 0, 1, rfl, by first | rfl | rw [em], rfl, rfl, h4, a1, by omega, by simp; omega, by simp; omega, st⟩
    case round =>
      obtain ⟨⟨q, rfl⟩, R, S, X, Y, rfl, rfl, rfl, rfl, hR, s1, hS, hXn, hYn, hE⟩ := hrel
      have r0 := hE.out.r0
      by_cases hz : S = 1
      · have E : Hid (M.inv a n = Y % n) := Lib.hid (by
          obtain ⟨_, _, _, _, E', _⟩ := hE.out.round s1
          rw [hz] at E'
          have e0 : R - R / 1 * 1 = 0 := by omega
          rw [e0] at E'
          exact M.Euc.last E' hg.out)
        subst hz
        go_wp2_with (go_at_call 36; refine (rMod_at (r := Y % n) _ (by omega) (by omega) (by omega) (by omega) rfl).mono ?_; rintro e w' ⟨rfl, j, rfl⟩)
        go_ret
        exact ⟨ret_int E.out.symm, _, rfl⟩
      · obtain ⟨q1, q2, q3, q4, E, q5⟩ := hE.out.round s1
        have qb := hE.out.bound s1
        have q0 : 0 ≤ R / S := Int.ediv_nonneg r0 (by omega)
        have S1 : 1 ≤ R - R / S * S := by
          rcases Int.lt_or_le 0 (R - R / S * S) with h | h
          · omega
          · have h0 : R - R / S * S = 0 := by have := E.s0; omega
            have := E.gcd
            rw [h0] at this
            simp at this
            omega
        have EE := Lib.hid E
        have qs : R / S ≤ 9223372036854775807 := by have := Int.ediv_le_self S r0; omega
        have S2 : 1 < S := by omega
        clear hz E
        go_wp2
        go_roundw
        case rel => exact ⟨⟨_, rfl⟩, S, R - R / S * S, Y, X - R / S * Y, rfl, rfl, rfl, rfl, hS, S1, by omega, hYn, q4, EE⟩
        case measure => simp [intOf]; omega

end Go.Proofs.Ytfmdgeeooohilaa
