/- Walks through package civil and its reference: lengths. -/
import Derived.Test.YtainibnjpkbfpaaKit
import Derived.Test.YtainibnjpkbfpaaCivM
import Derived.Test.YtainibnjpkbfpaaIntW
import Derived.Test.YtainibnjpkbfpaaChecked
namespace Go.Proofs.Ytainibnjpkbfpaa
set_option linter.unusedVariables false
set_option linter.unusedSimpArgs false
open Go.RowKit

theorem year_any (y : Int) (w : World) : Calls Try.prog 66 #[.int .i64 y] w fun e w' => e = .returned (.bool (M.yr y)) ∧ w = w' := by
  by_cases h1 : 1 ≤ y
  · by_cases h2 : y ≤ 9999
    · go_enter Try.func66, Try.ntmps66
      go_wp2
      go_ret
      exact ⟨ret_bool (M.yr_t ⟨h1, h2⟩).symm, rfl⟩
    · go_enter Try.func66, Try.ntmps66
      go_wp2
      go_ret
      exact ⟨ret_bool (M.yr_f (by omega)).symm, rfl⟩
  · go_enter Try.func66, Try.ntmps66
    go_wp2
    go_ret
    exact ⟨ret_bool (M.yr_f (by omega)).symm, rfl⟩

theorem Leap_any (y : Int) (w : World) : Calls Try.prog 67 #[.int .i64 y] w fun e w' => e = .returned (.bool (M.leap y)) ∧ w = w' := by
  by_cases h : 1 ≤ y ∧ y ≤ 9999
  · have hy := M.yr_t h
    obtain ⟨h1, h2⟩ := h
    by_cases h4 : y % 4 = 0
    · have k4 : (y % 4 == 0) = true := by simp [h4]
      by_cases h100 : y % 100 = 0
      · have k100 : (y % 100 != 0) = false := by simp [h100]
        by_cases h400 : y % 400 = 0
        · have k400 : (y % 400 == 0) = true := by simp [h400]
          have R := Lib.hid (M.leap_t ⟨h1, h2⟩ h4 (.inr h400))
          clear h4 h100 h400
          go_enter Try.func67, Try.ntmps67
          go_wp2_with (go_at_call 66; refine (year_any _ _).mono ?_; rintro e w' ⟨rfl, rfl⟩)
          go_ret
          exact ⟨ret_bool R.out.symm, rfl⟩
        · have k400 : (y % 400 == 0) = false := by simp [h400]
          have R := Lib.hid (M.leap_f (y := y) (by omega))
          clear h4 h100 h400
          go_enter Try.func67, Try.ntmps67
          go_wp2_with (go_at_call 66; refine (year_any _ _).mono ?_; rintro e w' ⟨rfl, rfl⟩)
          go_ret
          exact ⟨ret_bool R.out.symm, rfl⟩
      · have k100 : (y % 100 != 0) = true := by simp [h100]
        have R := Lib.hid (M.leap_t ⟨h1, h2⟩ h4 (.inl h100))
        clear h4 h100
        go_enter Try.func67, Try.ntmps67
        go_wp2_with (go_at_call 66; refine (year_any _ _).mono ?_; rintro e w' ⟨rfl, rfl⟩)
        go_ret
        exact ⟨ret_bool R.out.symm, rfl⟩
    · have k4 : (y % 4 == 0) = false := by simp [h4]
      have R := Lib.hid (M.leap_f (y := y) (by omega))
      clear h4
      go_enter Try.func67, Try.ntmps67
      go_wp2_with (go_at_call 66; refine (year_any _ _).mono ?_; rintro e w' ⟨rfl, rfl⟩)
      go_ret
      exact ⟨ret_bool R.out.symm, rfl⟩
  · have hy := M.yr_f h
    have R := Lib.hid (M.leap_f (y := y) (by omega))
    clear h
    go_enter Try.func67, Try.ntmps67
    go_wp2_with (go_at_call 66; refine (year_any _ _).mono ?_; rintro e w' ⟨rfl, rfl⟩)
    go_ret
    exact ⟨ret_bool R.out.symm, rfl⟩

/-- One month that is given as a number. -/
theorem Length_at (y m : Int) (w : World) (R : Int) (h1 : M.yr y = true) (hm1 : 1 ≤ m) (hm2 : m ≤ 12) (h2 : (m == 2) = false) (hR : Hid (R = M.len y m))
    (hi : ∀ w, (Instr.index 83 (.agg #[.int .i64 31, .int .i64 28, .int .i64 31, .int .i64 30, .int .i64 31, .int .i64 30, .int .i64 31, .int .i64 31, .int .i64 30, .int .i64 31, .int .i64 30, .int .i64 31]) (.int .i64 (m - 1))).run Try.prog w = .ok (.int .i64 R) w) :
    Calls Try.prog 35 #[.int .i64 y, .int .i64 m] w fun e w' => e = .returned (.int .i64 (M.len y m)) ∧ w = w' := by
  go_enter Try.func35, Try.ntmps35
  go_wp2_with (go_at_call 66; refine (year_any _ _).mono ?_; rintro e w' ⟨rfl, rfl⟩)
  go_ret
  exact ⟨ret_int hR.out, rfl⟩

theorem Length_any (y m : Int) (w : World) : Calls Try.prog 35 #[.int .i64 y, .int .i64 m] w fun e w' => e = .returned (.int .i64 (M.len y m)) ∧ w = w' := by
  by_cases hyr : 1 ≤ y ∧ y ≤ 9999
  · have hy := M.yr_t hyr
    by_cases hm : 1 ≤ m ∧ m ≤ 12
    · have hc : m = 2 ∨ m = 1 ∨ m = 3 ∨ m = 4 ∨ m = 5 ∨ m = 6 ∨ m = 7 ∨ m = 8 ∨ m = 9 ∨ m = 10 ∨ m = 11 ∨ m = 12 := by omega
      rcases hc with rfl | rfl | rfl | rfl | rfl | rfl | rfl | rfl | rfl | rfl | rfl | rfl
      · have hi : ∀ w, (Instr.index 83 (.agg #[.int .i64 31, .int .i64 28, .int .i64 31, .int .i64 30, .int .i64 31, .int .i64 30, .int .i64 31, .int .i64 31, .int .i64 30, .int .i64 31, .int .i64 30, .int .i64 31]) (.int .i64 1)).run Try.prog w = .ok (.int .i64 28) w := fun _ => by kernel_rfl
        rcases hl : M.leap y with _ | _
        · have R := Lib.hid (M.len_28 hyr hl)
          go_enter Try.func35, Try.ntmps35
          go_wp2_with (first | (go_at_call 66; refine (year_any _ _).mono ?_; rintro e w' ⟨rfl, rfl⟩) | (go_at_call 67; refine (Leap_any _ _).mono ?_; rintro e w' ⟨rfl, rfl⟩))
          go_ret
          exact ⟨ret_int R.out.symm, rfl⟩
        · have R := Lib.hid (M.len_29 hyr hl)
          go_enter Try.func35, Try.ntmps35
          go_wp2_with (first | (go_at_call 66; refine (year_any _ _).mono ?_; rintro e w' ⟨rfl, rfl⟩) | (go_at_call 67; refine (Leap_any _ _).mono ?_; rintro e w' ⟨rfl, rfl⟩))
          go_ret
          exact ⟨ret_int R.out.symm, rfl⟩
      · exact Length_at y 1 w 31 hy (by omega) (by omega) (by rfl) (Lib.hid (by rw [M.len_of hyr (by omega) (by omega) (by omega)]; simp)) (fun _ => by kernel_rfl)
      · exact Length_at y 3 w 31 hy (by omega) (by omega) (by rfl) (Lib.hid (by rw [M.len_of hyr (by omega) (by omega) (by omega)]; simp)) (fun _ => by kernel_rfl)
      · exact Length_at y 4 w 30 hy (by omega) (by omega) (by rfl) (Lib.hid (by rw [M.len_of hyr (by omega) (by omega) (by omega)]; simp)) (fun _ => by kernel_rfl)
      · exact Length_at y 5 w 31 hy (by omega) (by omega) (by rfl) (Lib.hid (by rw [M.len_of hyr (by omega) (by omega) (by omega)]; simp)) (fun _ => by kernel_rfl)
      · exact Length_at y 6 w 30 hy (by omega) (by omega) (by rfl) (Lib.hid (by rw [M.len_of hyr (by omega) (by omega) (by omega)]; simp)) (fun _ => by kernel_rfl)
      · exact Length_at y 7 w 31 hy (by omega) (by omega) (by rfl) (Lib.hid (by rw [M.len_of hyr (by omega) (by omega) (by omega)]; simp)) (fun _ => by kernel_rfl)
      · exact Length_at y 8 w 31 hy (by omega) (by omega) (by rfl) (Lib.hid (by rw [M.len_of hyr (by omega) (by omega) (by omega)]; simp)) (fun _ => by kernel_rfl)
      · exact Length_at y 9 w 30 hy (by omega) (by omega) (by rfl) (Lib.hid (by rw [M.len_of hyr (by omega) (by omega) (by omega)]; simp)) (fun _ => by kernel_rfl)
      · exact Length_at y 10 w 31 hy (by omega) (by omega) (by rfl) (Lib.hid (by rw [M.len_of hyr (by omega) (by omega) (by omega)]; simp)) (fun _ => by kernel_rfl)
      · exact Length_at y 11 w 30 hy (by omega) (by omega) (by rfl) (Lib.hid (by rw [M.len_of hyr (by omega) (by omega) (by omega)]; simp)) (fun _ => by kernel_rfl)
      · exact Length_at y 12 w 31 hy (by omega) (by omega) (by rfl) (Lib.hid (by rw [M.len_of hyr (by omega) (by omega) (by omega)]; simp)) (fun _ => by kernel_rfl)
    · have R := Lib.hid (M.len_0 (y := y) (m := m) (by omega))
      by_cases h1 : 1 ≤ m
      · have h12 : 12 < m := by omega
        clear hm
        go_enter Try.func35, Try.ntmps35
        go_wp2_with (go_at_call 66; refine (year_any _ _).mono ?_; rintro e w' ⟨rfl, rfl⟩)
        go_ret
        exact ⟨ret_int R.out.symm, rfl⟩
      · clear hm
        go_enter Try.func35, Try.ntmps35
        go_wp2_with (go_at_call 66; refine (year_any _ _).mono ?_; rintro e w' ⟨rfl, rfl⟩)
        go_ret
        exact ⟨ret_int R.out.symm, rfl⟩
  · have hy := M.yr_f hyr
    have R := Lib.hid (M.len_0 (y := y) (m := m) (by omega))
    clear hyr
    go_enter Try.func35, Try.ntmps35
    go_wp2_with (go_at_call 66; refine (year_any _ _).mono ?_; rintro e w' ⟨rfl, rfl⟩)
    go_ret
    exact ⟨ret_int R.out.symm, rfl⟩

theorem Valid_any (y m d : Int) (w : World) : Calls Try.prog 68 #[.agg #[.int .i64 y, .int .i64 m, .int .i64 d]] w fun e w' => e = .returned (.bool (M.vld y m d)) ∧ Below w.heap.size w w' := by
  by_cases h1 : 1 ≤ d
  · by_cases h2 : d ≤ M.len y m
    · have R := Lib.hid (M.vld_t ⟨h1, h2⟩)
      go_enter Try.func68, Try.ntmps68
      go_wp2
      go_quiet ((go_at_call 35; exact Calls.quiet_of_same ((Length_any _ _ _).mono fun _ _ ⟨he, hw⟩ => ⟨he, hw.symm⟩)))
      go_wp2
      go_ret
      exact ⟨ret_bool R.out.symm, bdrewN ((Below.refl _ _).alloc (Nat.le_refl _) _)⟩
    · have R := Lib.hid (M.vld_f (y := y) (m := m) (d := d) (by omega))
      have hd : decide (d ≤ M.len y m) = false := by simpa using h2
      go_enter Try.func68, Try.ntmps68
      go_wp2
      go_quiet ((go_at_call 35; exact Calls.quiet_of_same ((Length_any _ _ _).mono fun _ _ ⟨he, hw⟩ => ⟨he, hw.symm⟩)))
      go_wp2
      go_ret
      exact ⟨ret_bool R.out.symm, bdrewN ((Below.refl _ _).alloc (Nat.le_refl _) _)⟩
  · have hd : decide (1 ≤ d) = false := by simpa using h1
    have R := Lib.hid (M.vld_f (y := y) (m := m) (d := d) (by omega))
    go_enter Try.func68, Try.ntmps68
    go_wp2
    go_quiet ((go_at_call 35; exact Calls.quiet_of_same ((Length_any _ _ _).mono fun _ _ ⟨he, hw⟩ => ⟨he, hw.symm⟩)))
    go_wp2
    go_ret
    exact ⟨ret_bool R.out.symm, bdrewN ((Below.refl _ _).alloc (Nat.le_refl _) _)⟩

theorem inside_any (x : Int) (w : World) : Calls Try.prog 64 #[.int .i64 x] w fun e w' => e = .returned (.bool (M.ins x)) ∧ w = w' := by
  by_cases h1 : -719162 ≤ x
  · by_cases h2 : x < 2932897
    · have R := Lib.hid (M.ins_t ⟨h1, h2⟩)
      go_enter Try.func64, Try.ntmps64
      go_wp2; go_ret
      exact ⟨ret_bool R.out.symm, rfl⟩
    · have R := Lib.hid (M.ins_f (x := x) (by omega))
      go_enter Try.func64, Try.ntmps64
      go_wp2; go_ret
      exact ⟨ret_bool R.out.symm, rfl⟩
  · have R := Lib.hid (M.ins_f (x := x) (by omega))
    go_enter Try.func64, Try.ntmps64
    go_wp2; go_ret
    exact ⟨ret_bool R.out.symm, rfl⟩

theorem count_any (y m d : Int) (w : World) (h1 : 1 ≤ y) (h2 : y ≤ 20000) (h3 : 1 ≤ m) (h4 : m ≤ 12) (h5 : -1000000 ≤ d) (h6 : d ≤ 1000000) :
    Calls Try.prog 65 #[.int .i64 y, .int .i64 m, .int .i64 d] w fun e w' => e = .returned (.int .i64 (M.cnt y m d)) ∧ w = w' := by
  by_cases h : m ≤ 2
  · have R := Lib.hid (M.cnt_lo (y := y) (d := d) h)
    go_enter Try.func65, Try.ntmps65
    go_wp2; go_ret
    exact ⟨ret_int R.out.symm, rfl⟩
  · have R := Lib.hid (M.cnt_hi (y := y) (d := d) h)
    go_enter Try.func65, Try.ntmps65
    go_wp2; go_ret
    exact ⟨ret_int R.out.symm, rfl⟩

end Go.Proofs.Ytainibnjpkbfpaa
