/- Walks through the laws of chapter 2: the n-th weekday of a month. -/
import Derived.Test.YtgjbcdbhbbimcaaCivAw
import Derived.Test.YtgjbcdbhbbimcaaCivM2
import Derived.Test.YtgjbcdbhbbimcaaCivL2
namespace Go.Proofs.Ytgjbcdbhbbimcaa
set_option linter.unusedVariables false
set_option linter.unusedSimpArgs false
open Go.RowKit

theorem CivilWeeks_err (y m k n x : Int) (w : World) (n1 : -9223372036854775808 ≤ n) (n2 : n ≤ 9223372036854775807) (hx : x = 1 ∨ x = 7) (R : Hid (M.nth y m k n = (0, x))) (hc : n = 0 ∨ 4 < n ∨ n < -4 ∨ M.len y m = 0 ∨ k < 1 ∨ 7 < k) :
    Calls Try.prog 10 #[.int .i64 y, .int .i64 m, .int .i64 k, .int .i64 n] w fun e w' => e = .returned (.bool true) ∧ Below w.heap.size w w' := by
  rcases hx with rfl | rfl
  all_goals
    by_cases h1 : n = 0
    · have k1 : (n == 0) = true := by simp [h1]
      clear h1 hc
      go_enter Try.func10, Try.ntmps10
      go_wp2_with (first
        | (go_at_call 14; refine (awake_any _).mono ?_; rintro e w1 ⟨rfl, hb1⟩)
        | (go_at_call 27; refine (Nth_any _ _ _ _ _ n1 n2).mono ?_; rw [R.out]; rintro e w' ⟨rfl, j, rfl⟩)
        | (go_at_call 19; refine (Length_any _ _ _).mono ?_; rintro e w' ⟨rfl, rfl⟩))
      go_ret
      exact ⟨rfl, bdrewN hb1⟩
    have k1 : (n == 0) = false := by simp [h1]
    by_cases h2 : 4 < n
    · clear h1 hc
      go_enter Try.func10, Try.ntmps10
      go_wp2_with (first
        | (go_at_call 14; refine (awake_any _).mono ?_; rintro e w1 ⟨rfl, hb1⟩)
        | (go_at_call 27; refine (Nth_any _ _ _ _ _ n1 n2).mono ?_; rw [R.out]; rintro e w' ⟨rfl, j, rfl⟩)
        | (go_at_call 19; refine (Length_any _ _ _).mono ?_; rintro e w' ⟨rfl, rfl⟩))
      go_ret
      exact ⟨rfl, bdrewN hb1⟩
    have k2 : decide (4 < n) = false := by simpa using h2
    by_cases h3 : n < -4
    · clear h1 hc
      go_enter Try.func10, Try.ntmps10
      go_wp2_with (first
        | (go_at_call 14; refine (awake_any _).mono ?_; rintro e w1 ⟨rfl, hb1⟩)
        | (go_at_call 27; refine (Nth_any _ _ _ _ _ n1 n2).mono ?_; rw [R.out]; rintro e w' ⟨rfl, j, rfl⟩)
        | (go_at_call 19; refine (Length_any _ _ _).mono ?_; rintro e w' ⟨rfl, rfl⟩))
      go_ret
      exact ⟨rfl, bdrewN hb1⟩
    have k3 : decide (n < -4) = false := by simpa using h3
    by_cases h4 : M.len y m = 0
    · have k4 : (M.len y m == 0) = true := by simp [h4]
      clear h1 h4 hc
      go_enter Try.func10, Try.ntmps10
      go_wp2_with (first
        | (go_at_call 14; refine (awake_any _).mono ?_; rintro e w1 ⟨rfl, hb1⟩)
        | (go_at_call 27; refine (Nth_any _ _ _ _ _ n1 n2).mono ?_; rw [R.out]; rintro e w' ⟨rfl, j, rfl⟩)
        | (go_at_call 19; refine (Length_any _ _ _).mono ?_; rintro e w' ⟨rfl, rfl⟩))
      go_ret
      exact ⟨rfl, bdrewN hb1⟩
    have k4 : (M.len y m == 0) = false := by simp [h4]
    by_cases h5 : k < 1
    · clear h1 h4 hc
      go_enter Try.func10, Try.ntmps10
      go_wp2_with (first
        | (go_at_call 14; refine (awake_any _).mono ?_; rintro e w1 ⟨rfl, hb1⟩)
        | (go_at_call 27; refine (Nth_any _ _ _ _ _ n1 n2).mono ?_; rw [R.out]; rintro e w' ⟨rfl, j, rfl⟩)
        | (go_at_call 19; refine (Length_any _ _ _).mono ?_; rintro e w' ⟨rfl, rfl⟩))
      go_ret
      exact ⟨rfl, bdrewN hb1⟩
    have k5 : decide (k < 1) = false := by simpa using h5
    have h6 : 7 < k := by omega
    clear h1 h4 hc
    go_enter Try.func10, Try.ntmps10
    go_wp2_with (first
      | (go_at_call 14; refine (awake_any _).mono ?_; rintro e w1 ⟨rfl, hb1⟩)
      | (go_at_call 27; refine (Nth_any _ _ _ _ _ n1 n2).mono ?_; rw [R.out]; rintro e w' ⟨rfl, j, rfl⟩)
      | (go_at_call 19; refine (Length_any _ _ _).mono ?_; rintro e w' ⟨rfl, rfl⟩))
    go_ret
    exact ⟨rfl, bdrewN hb1⟩

theorem CivilWeeks_walk (y m k n : Int) (w : World) (_ : -9223372036854775808 ≤ y) (_ : y ≤ 9223372036854775807) (_ : -9223372036854775808 ≤ m) (_ : m ≤ 9223372036854775807) (_ : -9223372036854775808 ≤ k) (_ : k ≤ 9223372036854775807) (n1 : -9223372036854775808 ≤ n) (n2 : n ≤ 9223372036854775807) :
    Calls Try.prog 10 #[.int .i64 y, .int .i64 m, .int .i64 k, .int .i64 n] w fun e w' => e = .returned (.bool true) ∧ Below w.heap.size w w' := by
  by_cases hbad : M.len y m = 0 ∨ k < 1 ∨ 7 < k ∨ n = 0
  · exact CivilWeeks_err y m k n 1 w n1 n2 (.inl rfl) (Lib.hid (M.nth_1 hbad)) (by omega)
  · by_cases ht : M.nthT y m k n < M.len y m
    · obtain ⟨d, hv, hR, hw, g1, g2, g3, g4⟩ := M.nth_spec hbad ht
      have R := Lib.hid hR
      obtain ⟨b1, b2, b3, b4, b5, b6⟩ := M.vld_bd hv
      have i := M.cnt_inside hv
      have hd := Lib.hid (M.dtx_t (M.ins_t i) hv rfl)
      have hk : (M.wd (M.cnt y m d) != k) = false := by simp [hw]
      have lb := M.len_bd y m
      obtain ⟨i1, i2⟩ := i
      have hl : d ≤ M.len y m := (M.vld_iff.1 hv).2
      rcases Int.lt_or_le 0 n with hn | hn
      · have q : ((d - 1) / 7 == n - 1) = true := by simpa using g3 hn
        clear hR hw g3 g4 hbad ht hv
        go_enter Try.func10, Try.ntmps10
        go_wp2_with (first
          | (go_at_call 14; refine (awake_any _).mono ?_; rintro e w1 ⟨rfl, hb1⟩)
          | (go_at_call 27; refine (Nth_any _ _ _ _ _ n1 n2).mono ?_; rw [R.out]; rintro e w' ⟨rfl, j, rfl⟩)
          | (go_at_call 31; refine (Date_at _ hd.out).mono ?_; rintro e w2 ⟨rfl, hb2⟩)
          | (go_at_call 21; refine (Weekday_any _ _).mono ?_; rintro e w' ⟨rfl, j2, rfl⟩))
        go_ret
        exact ⟨rfl, bdrewN (((hb1.trans ((bundrewN hb2).mono hb1.size)).alloc (by have := hb1.size; have := (bundrewN hb2).size; omega) _))⟩
      · have hn0 : n < 0 := by omega
        have q : ((M.len y m - d) / 7 == -n - 1) = true := by simpa using g4 hn0
        clear hR hw g3 g4 hbad ht hv
        go_enter Try.func10, Try.ntmps10
        go_wp2_with (first
          | (go_at_call 14; refine (awake_any _).mono ?_; rintro e w1 ⟨rfl, hb1⟩)
          | (go_at_call 27; refine (Nth_any _ _ _ _ _ n1 n2).mono ?_; rw [R.out]; rintro e w' ⟨rfl, j, rfl⟩)
          | (go_at_call 31; refine (Date_at _ hd.out).mono ?_; rintro e w2 ⟨rfl, hb2⟩)
          | (go_at_call 21; refine (Weekday_any _ _).mono ?_; rintro e w' ⟨rfl, j2, rfl⟩))
        have s1 : 0 ≤ M.len y m - d := by omega
        have s2 : IntKind.i64.wrap (M.len y m - d) = M.len y m - d := IntWalk.i64_in _ (by omega)
        have s3 : IntKind.i64.wrap (-n) = -n := IntWalk.i64_in _ (by omega)
        have s4 : IntKind.i64.wrap (-n - 1) = -n - 1 := IntWalk.i64_in _ (by omega)
        go_quiet ((go_at_call 19; exact q_same (Length_any _ _ _)))
        go_wp2
        go_ret
        exact ⟨rfl, bdrewN (bdrewN (((hb1.trans ((bundrewN hb2).mono hb1.size)).alloc (by have := hb1.size; have := (bundrewN hb2).size; omega) _)))⟩
    · have hR := Lib.hid (M.nth_7 hbad (by omega))
      exact CivilWeeks_err y m k n 7 w n1 n2 (.inr rfl) hR (by have := M.nth_none hbad ht; omega)

end Go.Proofs.Ytgjbcdbhbbimcaa
