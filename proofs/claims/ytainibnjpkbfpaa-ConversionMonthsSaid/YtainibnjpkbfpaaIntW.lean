/- Walks through package integer: floor division, sums. -/
import Derived.Test.YtainibnjpkbfpaaKit
import Derived.Test.YtainibnjpkbfpaaIntM
import Derived.Test.YtainibnjpkbfpaaChecked
namespace Go.Proofs.Ytainibnjpkbfpaa
set_option linter.unusedVariables false
set_option linter.unusedSimpArgs false
open Go.RowKit

theorem Div_pos (a b : Int) (w : World) (h1 : -9223372036854775808 ≤ a) (h2 : a ≤ 9223372036854775807) (h3 : 1 ≤ b) (h4 : b ≤ 9223372036854775807) :
    Calls Try.prog 77 #[.int .i64 a, .int .i64 b] w fun e w' => e = .returned (.tuple #[.int .i64 (a / b), .int .i64 (a % b), .int .i64 0]) ∧ ∃ n, w' = w.drewN n := by
  have hb0 : (b == 0) = false := by simp; omega
  have hb1 : (b == -1) = false := by simp; omega
  have hbl : decide (b < 0) = false := by simp; omega
  by_cases ha : 0 ≤ a
  · have hA : (a == -9223372036854775808) = false := by simp; omega
    have m1 := Int.emod_nonneg a (show b ≠ 0 by omega)
    have hm : decide (a % b < 0) = false := by simp; omega
    by_cases hr : a % b = 0
    · have hr' : (a % b != 0) = false := by simp [hr]
      clear hr
      go_enter Try.func77, Try.ntmps77
      go_wp2; go_quiet (fail); go_wp2; go_ret3
      exact ⟨rfl, _, rfl⟩
    · have hr' : (a % b != 0) = true := by simp [hr]
      clear hr
      go_enter Try.func77, Try.ntmps77
      go_wp2; go_quiet (fail); go_wp2; go_ret3
      exact ⟨rfl, _, rfl⟩
  · have t1 := M.tdiv_neg (a := a) (b := b) (by omega) (by omega)
    have t2 := M.tmod_neg (a := a) (b := b) (by omega) (by omega)
    have m1 := Int.emod_nonneg (-a) (show b ≠ 0 by omega)
    have m2 := Int.emod_lt_of_pos (-a) (show 0 < b by omega)
    have q1 := M.ediv_mul_emod (-a) b
    have q2 : 0 ≤ (-a) / b := Int.ediv_nonneg (by omega) (by omega)
    have q3 : (-a) / b ≤ -a := Int.ediv_le_self _ (by omega)
    by_cases hr : (-a) % b = 0
    · have E := Lib.hid (M.ediv_neg0 (a := a) (b := b) (by omega) hr)
      have hr' : (a.tmod b != 0) = false := by rw [t2, hr]; rfl
      have T := Lib.hid (And.intro t1 t2)
      have HR := Lib.hid hr
      have lo : -9223372036854775808 ≤ a.tdiv b := by omega
      have hi : a.tdiv b ≤ 9223372036854775807 := by
        rcases Int.lt_or_le 1 b with h | h
        · have h5 : 2 * ((-a) / b) ≤ b * ((-a) / b) := Int.mul_le_mul_of_nonneg_right (by omega) q2
          omega
        · omega
      clear hr t1 t2 q1 q2 q3 m1 m2
      rcases hA : (a == -9223372036854775808) with _ | _
      all_goals
        go_enter Try.func77, Try.ntmps77
        go_wp2; go_quiet (fail); go_wp2; go_ret3
        exact ⟨ret_int3 (by rw [E.out.1, T.out.1]) (by rw [E.out.2, T.out.2, HR.out]; rfl) rfl, _, rfl⟩
    · have E := Lib.hid (M.ediv_neg1 (a := a) (b := b) (by omega) hr)
      have hr' : (a.tmod b != 0) = true := by rw [t2]; simp; omega
      have hr'' : decide (a.tmod b < 0) = true := by rw [t2]; simp; omega
      have hbig : (-a) / b ≤ 4611686018427387904 := by
        have hb2 : 2 ≤ b := by
          rcases Int.lt_or_le 1 b with h | h
          · exact h
          · have : b = 1 := by omega
            subst this; exact absurd (Int.emod_one (-a)) hr
        have h5 : 2 * ((-a) / b) ≤ b * ((-a) / b) := Int.mul_le_mul_of_nonneg_right hb2 q2
        omega
      have T := Lib.hid (And.intro t1 t2)
      have lo : -9223372036854775808 ≤ a.tdiv b - 1 := by omega
      have hi : a.tdiv b - 1 ≤ 9223372036854775807 := by omega
      have lo2 : -9223372036854775808 ≤ a.tmod b + b := by omega
      have hi2 : a.tmod b + b ≤ 9223372036854775807 := by omega
      clear hr t1 t2 q1 q2 q3 m1 m2 hbig
      rcases hA : (a == -9223372036854775808) with _ | _
      all_goals
        go_enter Try.func77, Try.ntmps77
        go_wp2; go_quiet (fail); go_wp2; go_ret3
        exact ⟨ret_int3 (by rw [E.out.1, T.out.1]) (by rw [E.out.2, T.out.2]; omega) rfl, _, rfl⟩

theorem Floor_pos (a b : Int) (w : World) (h1 : -9223372036854775808 ≤ a) (h2 : a ≤ 9223372036854775807) (h3 : 1 ≤ b) (h4 : b ≤ 9223372036854775807) :
    Calls Try.prog 51 #[.int .i64 a, .int .i64 b] w fun e w' => e = .returned (.int .i64 (a / b)) ∧ ∃ n, w' = w.drewN n := by
  go_enter Try.func51, Try.ntmps51
  go_wp2_with (go_at_call 77; refine (Div_pos _ _ _ h1 h2 h3 h4).mono ?_; rintro e w' ⟨rfl, n, rfl⟩)
  go_ret
  exact ⟨rfl, _, rfl⟩

theorem Mod_pos (a b : Int) (w : World) (h1 : -9223372036854775808 ≤ a) (h2 : a ≤ 9223372036854775807) (h3 : 1 ≤ b) (h4 : b ≤ 9223372036854775807) :
    Calls Try.prog 70 #[.int .i64 a, .int .i64 b] w fun e w' => e = .returned (.int .i64 (a % b)) ∧ ∃ n, w' = w.drewN n := by
  go_enter Try.func70, Try.ntmps70
  go_wp2_with (go_at_call 77; refine (Div_pos _ _ _ h1 h2 h3 h4).mono ?_; rintro e w' ⟨rfl, n, rfl⟩)
  go_ret
  exact ⟨rfl, _, rfl⟩

theorem wrap_over {s : Int} (h1 : 9223372036854775807 < s) (h2 : s ≤ 18446744073709551614) : wrap64 s = s - 18446744073709551616 := by
  unfold wrap64; omega
theorem wrap_under {s : Int} (h1 : s < -9223372036854775808) (h2 : -18446744073709551616 ≤ s) : wrap64 s = s + 18446744073709551616 := by
  unfold wrap64; omega

/-- The sum of two integers, as the code has it: in range, exact. -/
theorem Add_ok (a b : Int) (w : World) (h1 : -9223372036854775808 ≤ a) (h2 : a ≤ 9223372036854775807) (h3 : -9223372036854775808 ≤ b) (h4 : b ≤ 9223372036854775807)
    (h5 : -9223372036854775808 ≤ a + b) (h6 : a + b ≤ 9223372036854775807) :
    Calls Try.prog 69 #[.int .i64 a, .int .i64 b] w fun e w' => e = .returned (.tuple #[.int .i64 (a + b), .int .i64 0]) ∧ w = w' := by
  by_cases ha : 0 ≤ a
  · by_cases hb : 0 ≤ b
    · have hs : 0 ≤ a + b := by omega
      go_enter Try.func69, Try.ntmps69
      go_wp2; go_ret2
      exact ⟨rfl, rfl⟩
    · go_enter Try.func69, Try.ntmps69
      go_wp2; go_ret2
      exact ⟨rfl, rfl⟩
  · by_cases hb : 0 ≤ b
    · go_enter Try.func69, Try.ntmps69
      go_wp2; go_ret2
      exact ⟨rfl, rfl⟩
    · have hs : a + b < 0 := by omega
      go_enter Try.func69, Try.ntmps69
      go_wp2; go_ret2
      exact ⟨rfl, rfl⟩
theorem Add_big (a b : Int) (w : World) (h1 : -9223372036854775808 ≤ a) (h2 : a ≤ 9223372036854775807) (h3 : -9223372036854775808 ≤ b) (h4 : b ≤ 9223372036854775807)
    (h5 : a + b < -9223372036854775808 ∨ 9223372036854775807 < a + b) :
    Calls Try.prog 69 #[.int .i64 a, .int .i64 b] w fun e w' => e = .returned (.tuple #[.int .i64 0, .int .i64 9]) ∧ w = w' := by
  rcases h5 with h5 | h5
  · have ha : a < 0 := by omega
    have hb : b < 0 := by omega
    have hw := wrap_under h5 (by omega)
    have hs : decide (0 ≤ wrap64 (a + b)) = true := by simp; omega
    have da : decide (0 ≤ a) = false := by simp; omega
    have db : decide (0 ≤ b) = false := by simp; omega
    clear hw
    go_enter Try.func69, Try.ntmps69
    go_wp2; go_ret2
    exact ⟨rfl, rfl⟩
  · have ha : 0 ≤ a := by omega
    have hb : 0 ≤ b := by omega
    have hw := wrap_over h5 (by omega)
    have hs : decide (0 ≤ wrap64 (a + b)) = false := by simp; omega
    clear hw
    go_enter Try.func69, Try.ntmps69
    go_wp2; go_ret2
    exact ⟨rfl, rfl⟩

end Go.Proofs.Ytainibnjpkbfpaa
