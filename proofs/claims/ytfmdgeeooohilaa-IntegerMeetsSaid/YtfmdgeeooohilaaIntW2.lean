/- Walks through package integer: quotients by any divisor, products, common divisors. -/
import Derived.Test.YtfmdgeeooohilaaIntW
import Derived.Test.YtfmdgeeooohilaaIntM2
import Derived.Test.YtfmdgeeooohilaaTextW
import Derived.Test.YtfmdgeeooohilaaShelf
namespace Go.Proofs.Ytfmdgeeooohilaa
set_option linter.unusedVariables false
set_option linter.unusedSimpArgs false
open Go.RowKit

theorem ret_dv {a b q r e : Int} (h : M.dv a b = ((q, r), e)) : Ending.returned (.tuple #[.int .i64 q, .int .i64 r, .int .i64 e]) = .returned (.tuple #[.int .i64 (M.dv a b).1.1, .int .i64 (M.dv a b).1.2, .int .i64 (M.dv a b).2]) := by rw [h]

set_option maxHeartbeats 1000000 in
theorem Div_any (a b : Int) (w : World) (h1 : -9223372036854775808 ≤ a) (h2 : a ≤ 9223372036854775807) (h3 : -9223372036854775808 ≤ b) (h4 : b ≤ 9223372036854775807) :
    Calls Try.prog 22 #[.int .i64 a, .int .i64 b] w fun e w' => e = .returned (.tuple #[.int .i64 (M.dv a b).1.1, .int .i64 (M.dv a b).1.2, .int .i64 (M.dv a b).2]) ∧ ∃ n, w' = w.drewN n := by
  rcases Int.lt_trichotomy b 0 with hb | rfl | hb
  · by_cases hx : a = -9223372036854775808 ∧ b = -1
    · obtain ⟨rfl, rfl⟩ := hx
      have R := Lib.hid M.dv_big
      go_enter Try.func22, Try.ntmps22
      go_wp2; go_ret3
      exact ⟨ret_dv R.out, 0, rfl⟩
    · have R0 := M.dv_ok (show b ≠ 0 by omega) hx
      rw [M.dq_neg hb, M.dr_neg hb] at R0
      obtain ⟨c, hbc⟩ : ∃ c, b = -c := ⟨-b, by omega⟩
      have hcb : -b = c := by omega
      rw [hcb] at R0
      have hb0 : (b == 0) = false := by simp; omega
      have hbl : decide (b < 0) = true := by simp; omega
      have hmin : (a == -9223372036854775808) = true ∧ (b == -1) = false ∨ (a == -9223372036854775808) = false := by
        by_cases ha : a = -9223372036854775808
        · left; exact ⟨by simp [ha], by simp; omega⟩
        · right; simp [ha]
      have c1 : 1 ≤ c := by omega
      have hc9 : c ≤ 9223372036854775808 := by omega
      have HX := Lib.hid hx
      clear hx
      by_cases ha : 0 ≤ a
      · have e1 : a % b = a % c := by rw [hbc]; exact Int.emod_neg ..
        have e2 : a.tdiv b = -(a / c) := by rw [hbc, Int.tdiv_neg, Int.tdiv_eq_ediv_of_nonneg ha]
        have m1 := Int.emod_nonneg a (show c ≠ 0 by omega)
        have m2 := Int.emod_lt_of_pos a (show 0 < c by omega)
        have q1 : 0 ≤ a / c := Int.ediv_nonneg ha (by omega)
        have q2 : a / c ≤ a := Int.ediv_le_self _ ha
        have hamin : (a == -9223372036854775808) = false := by simp; omega
        have lo0 : -9223372036854775808 ≤ a.tdiv b := by rw [e2]; omega
        have hi0 : a.tdiv b ≤ 9223372036854775807 := by rw [e2]; omega
        by_cases hr : a % c = 0
        · have E := M.ediv_neg0 (a := -a) (b := c) (by omega) (by rw [Int.neg_neg]; exact hr)
          rw [Int.neg_neg] at E
          have T := Lib.hid (And.intro e2 (And.intro E (And.intro e1 hr)))
          have R := Lib.hid R0
          have hr' : (a % b != 0) = false := by rw [e1, hr]; rfl
          have HBC := Lib.hid hbc
          clear e1 e2 E R0 hr m1 m2 q1 q2 hmin hbc hcb
          go_enter Try.func22, Try.ntmps22
          go_wp2; go_quiet (fail); go_wp2; go_ret3
          exact ⟨(ret_int3 (by rw [T.out.1, T.out.2.1.1]) (by rw [T.out.2.2.1, T.out.2.2.2, T.out.2.1.2]; rfl) rfl).trans (ret_dv R.out), _, rfl⟩
        · have E := M.ediv_neg1 (a := -a) (b := c) (by omega) (by rw [Int.neg_neg]; exact hr)
          rw [Int.neg_neg] at E
          have T := Lib.hid (And.intro e2 (And.intro E (And.intro e1 hr)))
          have R := Lib.hid R0
          have hr' : (a % b != 0) = true := by rw [e1]; simp [hr]
          have hr'' : decide (a % b < 0) = false := by rw [e1]; simp; omega
          have lo : -9223372036854775808 ≤ a.tdiv b - 1 := by rw [e2]; omega
          have hi : a.tdiv b - 1 ≤ 9223372036854775807 := by rw [e2]; omega
          have lo2 : -9223372036854775808 ≤ a % b + b := by rw [e1]; omega
          have hi2 : a % b + b ≤ 9223372036854775807 := by rw [e1]; omega
          have HBC := Lib.hid hbc
          clear e1 e2 E R0 hr m1 m2 q1 q2 hmin hbc hcb
          go_enter Try.func22, Try.ntmps22
          go_wp2; go_quiet (fail); go_wp2; go_ret3
          exact ⟨(ret_int3 (by rw [T.out.1, T.out.2.1.1]) (by rw [T.out.2.2.1, T.out.2.1.2, HBC.out]; omega) rfl).trans (ret_dv R.out), _, rfl⟩
      · have e1 : a.tmod b = -((-a) % c) := by rw [hbc, Int.tmod_neg, M.tmod_neg (by omega) (by omega)]
        have e2 : a.tdiv b = (-a) / c := by rw [hbc, Int.tdiv_neg, M.tdiv_neg (by omega) (by omega), Int.neg_neg]
        have m1 := Int.emod_nonneg (-a) (show c ≠ 0 by omega)
        have m2 := Int.emod_lt_of_pos (-a) (show 0 < c by omega)
        have q1 : 0 ≤ (-a) / c := Int.ediv_nonneg (by omega) (by omega)
        have q2 : (-a) / c ≤ -a := Int.ediv_le_self _ (by omega)
        have q3 : (-a) / c ≤ 9223372036854775807 := by
          by_cases ha' : a = -9223372036854775808
          · have h5 : 2 * ((-a) / c) ≤ c * ((-a) / c) := Int.mul_le_mul_of_nonneg_right (by have := HX.out; omega) q1
            have h6 := M.ediv_mul_emod (-a) c
            omega
          · omega
        have lo : -9223372036854775808 ≤ a.tdiv b := by rw [e2]; omega
        have hi : a.tdiv b ≤ 9223372036854775807 := by rw [e2]; omega
        have T := Lib.hid (And.intro e2 e1)
        have R := Lib.hid R0
        have hr2 : (a.tmod b != 0) = false ∨ ((a.tmod b != 0) = true ∧ decide (a.tmod b < 0) = true) := by
          rw [e1]
          by_cases hr : (-a) % c = 0
          · left; rw [hr]; rfl
          · right; exact ⟨by simp; omega, by simp; omega⟩
        have HBC := Lib.hid hbc
        clear e1 e2 R0 m1 m2 q1 q2 q3 hbc hcb
        rcases hmin with ⟨g1, g2⟩ | g1
        all_goals
          rcases hr2 with hr' | ⟨hr', hr''⟩
          all_goals
            go_enter Try.func22, Try.ntmps22
            go_wp2; go_quiet (fail); go_wp2; go_ret3
            exact ⟨(ret_int3 (by rw [T.out.1]) (by rw [T.out.2]) rfl).trans (ret_dv R.out), _, rfl⟩
  · have R := Lib.hid (M.dv_zero a)
    go_enter Try.func22, Try.ntmps22
    go_wp2; go_ret3
    exact ⟨ret_dv R.out, 0, rfl⟩
  · have R := Lib.hid (M.dv_ok (a := a) (show b ≠ 0 by omega) (by omega))
    have Q := Lib.hid (And.intro (M.dq_pos (a := a) hb) (M.dr_pos (a := a) hb))
    exact (Div_pos a b w h1 h2 (by omega) h4).mono fun e w' ⟨he, hw⟩ => ⟨he.trans ((ret_int3 Q.out.1.symm Q.out.2.symm rfl).trans (ret_dv R.out)), hw⟩

theorem Floor_any (a b : Int) (w : World) (h1 : -9223372036854775808 ≤ a) (h2 : a ≤ 9223372036854775807) (h3 : -9223372036854775808 ≤ b) (h4 : b ≤ 9223372036854775807) :
    Calls Try.prog 23 #[.int .i64 a, .int .i64 b] w fun e w' => e = .returned (.int .i64 (M.dv a b).1.1) ∧ ∃ n, w' = w.drewN n := by
  go_enter Try.func23, Try.ntmps23
  go_wp2_with (go_at_call 22; refine (Div_any _ _ _ h1 h2 h3 h4).mono ?_; rintro e w' ⟨rfl, n, rfl⟩)
  go_ret
  exact ⟨rfl, _, rfl⟩
theorem Mod_any (a b : Int) (w : World) (h1 : -9223372036854775808 ≤ a) (h2 : a ≤ 9223372036854775807) (h3 : -9223372036854775808 ≤ b) (h4 : b ≤ 9223372036854775807) :
    Calls Try.prog 19 #[.int .i64 a, .int .i64 b] w fun e w' => e = .returned (.int .i64 (M.dv a b).1.2) ∧ ∃ n, w' = w.drewN n := by
  go_enter Try.func19, Try.ntmps19
  go_wp2_with (go_at_call 22; refine (Div_any _ _ _ h1 h2 h3 h4).mono ?_; rintro e w' ⟨rfl, n, rfl⟩)
  go_ret
  exact ⟨rfl, _, rfl⟩

end Go.Proofs.Ytfmdgeeooohilaa
