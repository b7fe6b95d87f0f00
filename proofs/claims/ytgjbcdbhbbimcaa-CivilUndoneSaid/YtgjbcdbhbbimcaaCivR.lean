/- Walks through the reference of civil: lengths. -/
import Derived.Test.YtgjbcdbhbbimcaaCivW
namespace Go.Proofs.Ytgjbcdbhbbimcaa
set_option linter.unusedVariables false
set_option linter.unusedSimpArgs false
open Go.RowKit

theorem rLeap_any (y : Int) (w : World) : Calls Try.prog 18 #[.int .i64 y] w fun e w' => e = .returned (.bool (M.leap y)) ∧ w = w' := by
  by_cases h : 1 ≤ y ∧ y ≤ 9999
  · obtain ⟨h1, h2⟩ := h
    by_cases h400 : y % 400 = 0
    · have k400 : (y % 400 == 0) = true := by simp [h400]
      have R := Lib.hid (M.leap_t ⟨h1, h2⟩ (by omega) (.inr h400))
      clear h400
      go_enter Try.func18, Try.ntmps18
      go_wp2; go_ret
      exact ⟨ret_bool R.out.symm, rfl⟩
    · have k400 : (y % 400 == 0) = false := by simp [h400]
      by_cases h4 : y % 4 = 0
      · have k4 : (y % 4 == 0) = true := by simp [h4]
        by_cases h100 : y % 100 = 0
        · have k100 : (y % 100 != 0) = false := by simp [h100]
          have R := Lib.hid (M.leap_f (y := y) (by omega))
          clear h4 h100 h400
          go_enter Try.func18, Try.ntmps18
          go_wp2; go_ret
          exact ⟨ret_bool R.out.symm, rfl⟩
        · have k100 : (y % 100 != 0) = true := by simp [h100]
          have R := Lib.hid (M.leap_t ⟨h1, h2⟩ h4 (.inl h100))
          clear h4 h100 h400
          go_enter Try.func18, Try.ntmps18
          go_wp2; go_ret
          exact ⟨ret_bool R.out.symm, rfl⟩
      · have k4 : (y % 4 == 0) = false := by simp [h4]
        have R := Lib.hid (M.leap_f (y := y) (by omega))
        clear h4 h400
        go_enter Try.func18, Try.ntmps18
        go_wp2; go_ret
        exact ⟨ret_bool R.out.symm, rfl⟩
  · have R := Lib.hid (M.leap_f (y := y) (by omega))
    by_cases h1 : 1 ≤ y
    · have h2 : 9999 < y := by omega
      clear h
      go_enter Try.func18, Try.ntmps18
      go_wp2; go_ret
      exact ⟨ret_bool R.out.symm, rfl⟩
    · clear h
      go_enter Try.func18, Try.ntmps18
      go_wp2; go_ret
      exact ⟨ret_bool R.out.symm, rfl⟩

theorem rLength_any (y m : Int) (w : World) : Calls Try.prog 20 #[.int .i64 y, .int .i64 m] w fun e w' => e = .returned (.int .i64 (M.len y m)) ∧ w = w' := by
  by_cases hyr : 1 ≤ y ∧ y ≤ 9999
  · by_cases hm : 1 ≤ m ∧ m ≤ 12
    · by_cases h2 : m = 2
      · subst h2
        rcases hl : M.leap y with _ | _
        · have R := Lib.hid (M.len_28 hyr hl)
          obtain ⟨h1, h2⟩ := hyr
          go_enter Try.func20, Try.ntmps20
          go_wp2_with (go_at_call 18; refine (rLeap_any _ _).mono ?_; rintro e w' ⟨rfl, rfl⟩)
          go_ret
          exact ⟨ret_int R.out.symm, rfl⟩
        · have R := Lib.hid (M.len_29 hyr hl)
          obtain ⟨h1, h2⟩ := hyr
          go_enter Try.func20, Try.ntmps20
          go_wp2_with (go_at_call 18; refine (rLeap_any _ _).mono ?_; rintro e w' ⟨rfl, rfl⟩)
          go_ret
          exact ⟨ret_int R.out.symm, rfl⟩
      · have R := Lib.hid (M.len_of hyr hm.1 hm.2 h2)
        obtain ⟨h1, h3⟩ := hyr
        obtain ⟨h4, h5⟩ := hm
        have hc : m = 1 ∨ m = 3 ∨ m = 4 ∨ m = 5 ∨ m = 6 ∨ m = 7 ∨ m = 8 ∨ m = 9 ∨ m = 10 ∨ m = 11 ∨ m = 12 := by omega
        clear h2
        rcases hc with rfl | rfl | rfl | rfl | rfl | rfl | rfl | rfl | rfl | rfl | rfl
        all_goals
          go_enter Try.func20, Try.ntmps20
          go_wp2; go_ret
          exact ⟨ret_int (by rw [R.out]; rfl), rfl⟩
    · have R := Lib.hid (M.len_0 (y := y) (m := m) (by omega))
      obtain ⟨h1, h3⟩ := hyr
      by_cases h4 : 1 ≤ m
      · have h5 : 12 < m := by omega
        clear hm
        go_enter Try.func20, Try.ntmps20
        go_wp2; go_ret
        exact ⟨ret_int R.out.symm, rfl⟩
      · clear hm
        go_enter Try.func20, Try.ntmps20
        go_wp2; go_ret
        exact ⟨ret_int R.out.symm, rfl⟩
  · have R := Lib.hid (M.len_0 (y := y) (m := m) (by omega))
    by_cases h1 : 1 ≤ y
    · have h2 : 9999 < y := by omega
      clear hyr
      go_enter Try.func20, Try.ntmps20
      go_wp2; go_ret
      exact ⟨ret_int R.out.symm, rfl⟩
    · clear hyr
      go_enter Try.func20, Try.ntmps20
      go_wp2; go_ret
      exact ⟨ret_int R.out.symm, rfl⟩

theorem rValid_any (y m d : Int) (w : World) : Calls Try.prog 16 #[.agg #[.int .i64 y, .int .i64 m, .int .i64 d]] w fun e w' => e = .returned (.bool (M.vld y m d)) ∧ Below w.heap.size w w' := by
  by_cases h1 : 1 ≤ d
  · by_cases h2 : d ≤ M.len y m
    · have R := Lib.hid (M.vld_t ⟨h1, h2⟩)
      go_enter Try.func16, Try.ntmps16
      go_wp2
      go_quiet ((go_at_call 20; exact Calls.quiet_of_same ((rLength_any _ _ _).mono fun _ _ ⟨he, hw⟩ => ⟨he, hw.symm⟩)))
      go_wp2
      go_ret
      exact ⟨ret_bool R.out.symm, bdrewN ((Below.refl _ _).alloc (Nat.le_refl _) _)⟩
    · have R := Lib.hid (M.vld_f (y := y) (m := m) (d := d) (by omega))
      have hd : decide (d ≤ M.len y m) = false := by simpa using h2
      go_enter Try.func16, Try.ntmps16
      go_wp2
      go_quiet ((go_at_call 20; exact Calls.quiet_of_same ((rLength_any _ _ _).mono fun _ _ ⟨he, hw⟩ => ⟨he, hw.symm⟩)))
      go_wp2
      go_ret
      exact ⟨ret_bool R.out.symm, bdrewN ((Below.refl _ _).alloc (Nat.le_refl _) _)⟩
  · have hd : decide (1 ≤ d) = false := by simpa using h1
    have R := Lib.hid (M.vld_f (y := y) (m := m) (d := d) (by omega))
    go_enter Try.func16, Try.ntmps16
    go_wp2
    go_quiet ((go_at_call 20; exact Calls.quiet_of_same ((rLength_any _ _ _).mono fun _ _ ⟨he, hw⟩ => ⟨he, hw.symm⟩)))
    go_wp2
    go_ret
    exact ⟨ret_bool R.out.symm, bdrewN ((Below.refl _ _).alloc (Nat.le_refl _) _)⟩

theorem rWeekday_any (x : Int) (w : World) : Calls Try.prog 22 #[.int .i64 x] w fun e w' => e = .returned (.int .i64 (M.wd x)) ∧ w = w' := by
  by_cases h : -719162 ≤ x ∧ x < 2932897
  · have R := Lib.hid (M.wd_t h)
    obtain ⟨h1, h2⟩ := h
    go_enter Try.func22, Try.ntmps22
    go_wp2; go_ret
    exact ⟨ret_int (by rw [R.out]; omega), rfl⟩
  · have R := Lib.hid (M.wd_f h)
    by_cases h1 : -719162 ≤ x
    · have h2 : 2932897 ≤ x := by omega
      clear h
      go_enter Try.func22, Try.ntmps22
      go_wp2; go_ret
      exact ⟨ret_int R.out.symm, rfl⟩
    · clear h
      go_enter Try.func22, Try.ntmps22
      go_wp2; go_ret
      exact ⟨ret_int R.out.symm, rfl⟩

theorem rYearDay_any (y m d : Int) (w : World) : Calls Try.prog 24 #[.agg #[.int .i64 y, .int .i64 m, .int .i64 d]] w fun e w' => e = .returned (.int .i64 (M.yday y m d)) ∧ Below w.heap.size w w' := by
  rcases hv : M.vld y m d with _ | _
  · have R := Lib.hid (M.yday_f hv)
    go_enter Try.func24, Try.ntmps24
    go_wp2_with (go_at_call 16; refine (rValid_any _ _ _ _).mono ?_; rintro e w1 ⟨rfl, hb⟩)
    go_ret
    exact ⟨ret_int R.out.symm, ((Below.refl _ _).alloc (Nat.le_refl _) _).trans (hb.mono (by simp))⟩
  · have R := Lib.hid (M.yday_t hv)
    obtain ⟨b1, b2, b3, b4, b5, b6⟩ := M.vld_bd hv
    go_enter Try.func24, Try.ntmps24
    go_wp2_with (go_at_call 16; refine (rValid_any _ _ _ _).mono ?_; rintro e w1 ⟨rfl, hb⟩; obtain ⟨hc, hf⟩ := bcell hb)
    go_loop [3, 4] (fun n k => ∃ j : Int, 1 ≤ j ∧ j ≤ m ∧ k = .int .i64 j ∧ n = .int .i64 (M.cnt y j d - M.cnt y 1 1 + 1)) (fun _ k => (m - intOf k).toNat)
    case atStart => exact ⟨1, by omega, by omega, rfl, by rw [M.cnt_d y 1 d, M.cnt_d y 1 1]; congr 1; omega⟩
    case round =>
      obtain ⟨j, hj1, hj2, rfl, rfl⟩ := hrel
      have c1 := M.cnt_bd (y := y) (m := j) (d := d) (by omega) (by omega)
      have c2 := M.cnt_bd (y := y) (m := 1) (d := 1) (by omega) (by omega)
      have c3 := M.len_bd y j
      by_cases hlt : j < m
      · have S := Lib.hid (M.cnt_succ (y := y) (m := j) (by omega) (by omega) d)
        go_wp2_with (go_at_call 20; refine (rLength_any _ _ _).mono ?_; rintro e w' ⟨rfl, rfl⟩)
        go_round
        case rel => exact ⟨j + 1, by omega, by omega, by go_num, by rw [S.out]; congr 1; omega⟩
        case measure => simp [intOf]; omega
      · obtain rfl : m = j := by omega
        go_wp2
        go_ret
        exact ⟨ret_int R.out.symm, ((Below.refl _ _).alloc (Nat.le_refl _) _).trans (hb.mono (by simp))⟩

end Go.Proofs.Ytgjbcdbhbbimcaa
