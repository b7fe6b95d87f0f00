/- Walks through the laws of chapter 2: the next day, 400 years. -/
import Derived.Test.YtgjbcdbhbbimcaaCivAw
import Derived.Test.YtgjbcdbhbbimcaaCivM2
namespace Go.Proofs.Ytgjbcdbhbbimcaa
set_option linter.unusedVariables false
set_option linter.unusedSimpArgs false
open Go.RowKit

/-- A date's contract where the date is known. -/
theorem Date_at {x y m d : Int} (w : World) (h : M.dtx x = ((y, m, d), 0)) : Calls Try.prog 31 #[.int .i64 x] w fun e w' =>
    e = .returned (.tuple #[.agg #[.int .i64 y, .int .i64 m, .int .i64 d], .int .i64 0]) ∧ Below w.heap.size w w' := by
  have := Date_any x w; rw [h] at this; exact this
theorem YearDay_at {y m d n : Int} (w : World) (h : M.yday y m d = n) : Calls Try.prog 23 #[.agg #[.int .i64 y, .int .i64 m, .int .i64 d]] w fun e w' => e = .returned (.int .i64 n) ∧ Below w.heap.size w w' := h ▸ YearDay_any y m d w

theorem CivilCycle_walk (x : Int) (w : World) (_ : -9223372036854775808 ≤ x) (_ : x ≤ 9223372036854775807) :
    Calls Try.prog 9 #[.int .i64 x] w fun e w' => e = .returned (.bool true) ∧ Below w.heap.size w w' := by
  by_cases h1 : x < -719162
  · go_enter Try.func9, Try.ntmps9
    go_wp2_with (go_at_call 14; refine (awake_any _).mono ?_; rintro e w1 ⟨rfl, hb1⟩)
    go_ret
    exact ⟨rfl, hb1⟩
  · by_cases h2 : 2786800 ≤ x
    · go_enter Try.func9, Try.ntmps9
      go_wp2_with (go_at_call 14; refine (awake_any _).mono ?_; rintro e w1 ⟨rfl, hb1⟩)
      go_ret
      exact ⟨rfl, hb1⟩
    · obtain ⟨y, m, d, hv, hx, hd⟩ := M.date_ex (x := x) (by omega)
      obtain ⟨hv', hx', hyd⟩ := M.date_400 hv hx (by omega)
      have hd' := M.dtx_t (x := x + 146097) (M.ins_t (by omega)) hv' hx'
      have hw : M.wd (x + 146097) = M.wd x := by rw [M.wd_t (by omega), M.wd_t (by omega)]; omega
      obtain ⟨b1, b2, b3, b4, b5, b6⟩ := M.vld_bd hv
      have H := Lib.hid (And.intro hd (And.intro hd' (And.intro hw hyd)))
      clear hx hx' hyd hw hv hv' hd hd'
      go_enter Try.func9, Try.ntmps9
      go_wp2_with (go_at_call 14; refine (awake_any _).mono ?_; rintro e w1 ⟨rfl, hb1⟩; obtain ⟨hc1, hf1⟩ := bcell hb1)
      refine (Date_at _ H.out.1).mono ?_; rintro e w2 ⟨rfl, hb2⟩; obtain ⟨hc2, hf2⟩ := bcell hb2
      go_wp2_with fail
      refine (Date_at _ H.out.2.1).mono ?_; rintro e w3 ⟨rfl, hb3⟩; obtain ⟨hc3, hf3⟩ := bcell hb3
      have z3 : w2.heap.size < w3.heap.size := by have := hb3.size; simp at this; omega
      go_wp2_with fail
      have hS : ∀ (s : Abv (w3.alloc (Obj.cells #[.int .i64 (y + 400), .int .i64 m, .int .i64 d] 23))) (b o : Nat), b < w3.heap.size + 1 → s.w.cell? ⟨b, o, none⟩ = (w3.alloc (Obj.cells #[.int .i64 (y + 400), .int .i64 m, .int .i64 d] 23)).cell? ⟨b, o, none⟩ := fun s b o h => Abv.cells _ s b o (by simpa using h)
      have z3' : w2.heap.size < w3.heap.size + 1 := by omega
      have z3n : w2.heap.size ≠ w3.heap.size := by omega
      have hw := H.out.2.2.1
      have hyd := H.out.2.2.2
      refine wp_region_abv (by kernel_rfl) (by kernel_rfl) ?_
      repeat (go_big_quiet_step ((first
        | (go_at_call 21; exact abv_drew (Weekday_any _ _))
        | (go_at_call 23; exact abv_call (YearDay_any _ _ _ _)))))
      refine wpQuiet_nil ?_
      rintro w4 hb4
      go_wp2
      go_ret
      have q1 := hb1.size; have q2 := hb2.size
      have B2 := hb1.trans (hb2.mono hb1.size)
      have B3 := (B2.alloc (by omega) _).trans (hb3.mono (by simp; omega))
      exact ⟨rfl, (B3.alloc (by omega) _).trans (hb4.mono (by simp; omega))⟩

/-- The next day: what both dates are, in three cases. -/
theorem CivilNext_in (y m d x : Int) (w : World) (hx1 : -719162 ≤ x) (hx2 : x < 2932896) (hv : M.vld y m d = true) (hx : M.cnt y m d = x) (hd : M.dtx x = ((y, m, d), 0)) (hle : d + 1 ≤ M.len y m) (hv' : M.vld y m (d + 1) = true) (hx' : M.cnt y m (d + 1) = x + 1) :
    Calls Try.prog 8 #[.int .i64 x] w fun e w' => e = .returned (.bool true) ∧ Below w.heap.size w w' := by
      have hd' := M.dtx_t (x := x + 1) (M.ins_t (by omega)) hv' hx'
      have hw : M.wd (x + 1) = M.wd x % 7 + 1 := by rw [M.wd_t (by omega), M.wd_t (by omega)]; omega
      have hw2 : 1 ≤ M.wd x ∧ M.wd x ≤ 7 := by rw [M.wd_t (by omega)]; omega
      obtain ⟨hw3, hw4⟩ := hw2
      have i := M.cnt_in_year hv
      have hyd : M.yday y m (d + 1) = M.yday y m d + 1 := by rw [M.yday_t hv', M.yday_t hv, hx', hx]; omega
      obtain ⟨hyb, hyc⟩ := M.yday_bd hv
      obtain ⟨b1, b2, b3, b4, b5, b6⟩ := M.vld_bd hv
      have H := Lib.hid (And.intro hd (And.intro hd' (And.intro hw hyd)))
      have k1 : (d + 1 == 1) = false := by simp; omega
      clear hx hx' hyd hw hv hv' hd hd' i
      rcases hm1 : (m == 1) with _ | _
      all_goals
        go_enter Try.func8, Try.ntmps8
        go_wp2_with (go_at_call 14; refine (awake_any _).mono ?_; rintro e w1 ⟨rfl, hb1⟩; obtain ⟨hc1, hf1⟩ := bcell hb1)
        refine (Date_at _ H.out.1).mono ?_; rintro e w2 ⟨rfl, hb2⟩; obtain ⟨hc2, hf2⟩ := bcell hb2
        go_wp2_with fail
        refine (Date_at _ H.out.2.1).mono ?_; rintro e w3 ⟨rfl, hb3⟩; obtain ⟨hc3, hf3⟩ := bcell hb3
        have z3 : w2.heap.size < w3.heap.size := by have := hb3.size; simp at this; omega
        have z3n : w2.heap.size ≠ w3.heap.size := by omega
        have z3m : w2.heap.size ≠ w3.heap.size + 1 := by omega
        go_wp2_with fail
        go_quiet ((go_at_call 19; exact Calls.quiet_of_same ((Length_any _ _ _).mono fun _ _ ⟨he, hw⟩ => ⟨he, hw.symm⟩)))
        go_wp2_with fail
        refine (YearDay_any _ _ _ _).mono ?_; rintro e w4 ⟨rfl, hb4⟩; obtain ⟨hc4, hf4⟩ := bcellN hb4
        have hw := H.out.2.2.1
        have hyd := H.out.2.2.2
        have z3b : w2.heap.size < w3.heap.size + 1 + 1 := by omega
        have z4 : w3.heap.size + 1 < w4.heap.size := by have := hb4.size; simp at this; omega
        have z4a : w3.heap.size < w4.heap.size := by omega
        have z4b : w2.heap.size < w4.heap.size := by omega
        go_wp2_with (go_at_call 21; refine (Weekday_any _ _).mono ?_; rintro e w' ⟨rfl, j1, rfl⟩)
        refine (YearDay_any _ _ _ _).mono ?_; rintro e w5 ⟨rfl, hb5⟩; obtain ⟨hc5, hf5⟩ := bcellN hb5
        go_wp2_with fail
        refine (YearDay_any _ _ _ _).mono ?_; rintro e w6 ⟨rfl, hb6⟩
        go_wp2
        go_ret
        have q1 := hb1.size; have q2 := hb2.size; have q5 := (bundrewN hb5).size
        have B2 := hb1.trans (hb2.mono hb1.size)
        have B3 := (B2.alloc (by omega) _).trans (hb3.mono (by simp; omega))
        have B4 := ((B3.alloc (by omega) _).alloc (by simp; omega) _).trans ((bundrewN hb4).mono (by simp; omega))
        exact ⟨rfl, (B4.trans ((bundrewN hb5).mono (by omega))).trans (hb6.mono (by omega))⟩

set_option maxHeartbeats 1000000 in
theorem CivilNext_month (y m d x : Int) (w : World) (hx1 : -719162 ≤ x) (hx2 : x < 2932896) (hv : M.vld y m d = true) (hx : M.cnt y m d = x) (hd : M.dtx x = ((y, m, d), 0)) (hle : M.len y m < d + 1) (hm12 : m < 12) (hv' : M.vld y (m + 1) 1 = true) (hx' : M.cnt y (m + 1) 1 = x + 1) :
    Calls Try.prog 8 #[.int .i64 x] w fun e w' => e = .returned (.bool true) ∧ Below w.heap.size w w' := by
      have hd' := M.dtx_t (x := x + 1) (M.ins_t (by omega)) hv' hx'
      have hw : M.wd (x + 1) = M.wd x % 7 + 1 := by rw [M.wd_t (by omega), M.wd_t (by omega)]; omega
      have hw2 : 1 ≤ M.wd x ∧ M.wd x ≤ 7 := by rw [M.wd_t (by omega)]; omega
      obtain ⟨hw3, hw4⟩ := hw2
      have hyd : M.yday y (m + 1) 1 = M.yday y m d + 1 := by rw [M.yday_t hv', M.yday_t hv, hx', hx]; omega
      obtain ⟨hyb, hyc⟩ := M.yday_bd hv
      obtain ⟨b1, b2, b3, b4, b5, b6⟩ := M.vld_bd hv
      have H := Lib.hid (And.intro hd (And.intro hd' (And.intro hw hyd)))
      have k1 : (m + 1 == 1) = false := by simp; omega
      clear hx hx' hyd hw hv hv' hd hd'
      · skip
        go_enter Try.func8, Try.ntmps8
        go_wp2_with (go_at_call 14; refine (awake_any _).mono ?_; rintro e w1 ⟨rfl, hb1⟩; obtain ⟨hc1, hf1⟩ := bcell hb1)
        refine (Date_at _ H.out.1).mono ?_; rintro e w2 ⟨rfl, hb2⟩; obtain ⟨hc2, hf2⟩ := bcell hb2
        go_wp2_with fail
        refine (Date_at _ H.out.2.1).mono ?_; rintro e w3 ⟨rfl, hb3⟩; obtain ⟨hc3, hf3⟩ := bcell hb3
        have z3 : w2.heap.size < w3.heap.size := by have := hb3.size; simp at this; omega
        have z3n : w2.heap.size ≠ w3.heap.size := by omega
        have z3m : w2.heap.size ≠ w3.heap.size + 1 := by omega
        go_wp2_with fail
        go_quiet ((go_at_call 19; exact Calls.quiet_of_same ((Length_any _ _ _).mono fun _ _ ⟨he, hw⟩ => ⟨he, hw.symm⟩)))
        go_wp2_with fail
        go_region
        all_goals
        go_wp2_with fail
        refine (YearDay_any _ _ _ _).mono ?_; rintro e w4 ⟨rfl, hb4⟩; obtain ⟨hc4, hf4⟩ := bcell hb4
        have hw := H.out.2.2.1
        have hyd := H.out.2.2.2
        have z3b : w2.heap.size < w3.heap.size + 1 + 1 := by omega
        have z4 : w3.heap.size + 1 < w4.heap.size := by have := hb4.size; simp at this; omega
        have z4a : w3.heap.size < w4.heap.size := by omega
        have z4b : w2.heap.size < w4.heap.size := by omega
        go_wp2_with (go_at_call 21; refine (Weekday_any _ _).mono ?_; rintro e w' ⟨rfl, j1, rfl⟩)
        refine (YearDay_any _ _ _ _).mono ?_; rintro e w5 ⟨rfl, hb5⟩; obtain ⟨hc5, hf5⟩ := bcellN hb5
        go_wp2_with fail
        refine (YearDay_any _ _ _ _).mono ?_; rintro e w6 ⟨rfl, hb6⟩
        go_wp2
        go_ret
        have q1 := hb1.size; have q2 := hb2.size; have q5 := (bundrewN hb5).size
        have B2 := hb1.trans (hb2.mono hb1.size)
        have B3 := (B2.alloc (by omega) _).trans (hb3.mono (by simp; omega))
        have B4 := (((bdrewN (n := nq + 1) ((B3.alloc (by omega) _).alloc (by simp; omega) _)).setCell (by simp; omega) _).setCell (by simp; omega) _).trans (hb4.mono (by simp; omega))
        exact ⟨rfl, (B4.trans ((bundrewN hb5).mono (by omega))).trans (hb6.mono (by omega))⟩

set_option maxHeartbeats 1000000 in
theorem CivilNext_year (y d x : Int) (w : World) (hx1 : -719162 ≤ x) (hx2 : x < 2932896) (hv : M.vld y 12 d = true) (hx : M.cnt y 12 d = x) (hd : M.dtx x = ((y, 12, d), 0)) (hle : M.len y 12 < d + 1) (hv' : M.vld (y + 1) 1 1 = true) (hx' : M.cnt (y + 1) 1 1 = x + 1) :
    Calls Try.prog 8 #[.int .i64 x] w fun e w' => e = .returned (.bool true) ∧ Below w.heap.size w w' := by
      have hd' := M.dtx_t (x := x + 1) (M.ins_t (by omega)) hv' hx'
      have hw : M.wd (x + 1) = M.wd x % 7 + 1 := by rw [M.wd_t (by omega), M.wd_t (by omega)]; omega
      have hw2 : 1 ≤ M.wd x ∧ M.wd x ≤ 7 := by rw [M.wd_t (by omega)]; omega
      obtain ⟨hw3, hw4⟩ := hw2
      have hyd : M.yday (y + 1) 1 1 = 1 := by rw [M.yday_t hv']; omega
      obtain ⟨hyb, hyc⟩ := M.yday_bd hv
      obtain ⟨b1, b2, b3, b4, b5, b6⟩ := M.vld_bd hv
      have H := Lib.hid (And.intro hd (And.intro hd' (And.intro hw hyd)))
      clear hx hx' hyd hw hv hv' hd hd'
      · skip
        go_enter Try.func8, Try.ntmps8
        go_wp2_with (go_at_call 14; refine (awake_any _).mono ?_; rintro e w1 ⟨rfl, hb1⟩; obtain ⟨hc1, hf1⟩ := bcell hb1)
        refine (Date_at _ H.out.1).mono ?_; rintro e w2 ⟨rfl, hb2⟩; obtain ⟨hc2, hf2⟩ := bcell hb2
        go_wp2_with fail
        refine (Date_at _ H.out.2.1).mono ?_; rintro e w3 ⟨rfl, hb3⟩; obtain ⟨hc3, hf3⟩ := bcell hb3
        have z3 : w2.heap.size < w3.heap.size := by have := hb3.size; simp at this; omega
        have z3n : w2.heap.size ≠ w3.heap.size := by omega
        have z3m : w2.heap.size ≠ w3.heap.size + 1 := by omega
        go_wp2_with fail
        go_quiet ((go_at_call 19; exact Calls.quiet_of_same ((Length_any _ _ _).mono fun _ _ ⟨he, hw⟩ => ⟨he, hw.symm⟩)))
        go_wp2_with fail
        go_region
        go_wp2_with fail
        go_region
        go_wp2_with fail
        refine (YearDay_any _ _ _ _).mono ?_; rintro e w4 ⟨rfl, hb4⟩; obtain ⟨hc4, hf4⟩ := bcell hb4
        have hw := H.out.2.2.1
        have hyd := H.out.2.2.2
        have c41 : w4.cell? ⟨w3.heap.size + 1, 1, none⟩ = some (.int .i64 1) := by
          rw [hc4 _ _ (by simp)]; simp [go_sem]
          refine World.cell?_setCell_same' _ _ _ ?_
          rw [World.cell?_setCell_same' _ _ _ (by simp [go_sem])]; rfl
        have c40 : w4.cell? ⟨w3.heap.size + 1, 0, none⟩ = some (.int .i64 (y + 1)) := by rw [hc4 _ _ (by simp)]; simp [go_sem]
        have c42 : w4.cell? ⟨w3.heap.size + 1, 2, none⟩ = some (.int .i64 1) := by rw [hc4 _ _ (by simp)]; simp [go_sem]
        have d40 : w4.cell? ⟨w3.heap.size, 0, none⟩ = some (.int .i64 (y + 1)) := by rw [hc4 _ _ (by simp; omega)]; simp [go_sem]
        have d41 : w4.cell? ⟨w3.heap.size, 1, none⟩ = some (.int .i64 1) := by rw [hc4 _ _ (by simp; omega)]; simp [go_sem]
        have d42 : w4.cell? ⟨w3.heap.size, 2, none⟩ = some (.int .i64 1) := by rw [hc4 _ _ (by simp; omega)]; simp [go_sem]
        have e40 : w4.cell? ⟨w2.heap.size, 0, none⟩ = some (.int .i64 y) := by rw [hc4 _ _ (by simp; omega)]; simp [go_sem, z3n, z3m]; rw [cell_alloc_lt (by simp; omega), cell_alloc_lt z3, hc3 _ _ (by simp)]; simp [go_sem]
        have e41 : w4.cell? ⟨w2.heap.size, 1, none⟩ = some (.int .i64 12) := by rw [hc4 _ _ (by simp; omega)]; simp [go_sem, z3n, z3m]; rw [cell_alloc_lt (by simp; omega), cell_alloc_lt z3, hc3 _ _ (by simp)]; simp [go_sem]
        have e42 : w4.cell? ⟨w2.heap.size, 2, none⟩ = some (.int .i64 d) := by rw [hc4 _ _ (by simp; omega)]; simp [go_sem, z3n, z3m]; rw [cell_alloc_lt (by simp; omega), cell_alloc_lt z3, hc3 _ _ (by simp)]; simp [go_sem]
        clear hc4 hf4
        have z3b : w2.heap.size < w3.heap.size + 1 + 1 := by omega
        have z4 : w3.heap.size + 1 < w4.heap.size := by have := hb4.size; simp at this; omega
        have z4a : w3.heap.size < w4.heap.size := by omega
        have z4b : w2.heap.size < w4.heap.size := by omega
        go_wp2_with (go_at_call 21; refine (Weekday_any _ _).mono ?_; rintro e w' ⟨rfl, j1, rfl⟩)
        refine (YearDay_any _ _ _ _).mono ?_; rintro e w5 ⟨rfl, hb5⟩; obtain ⟨hc5, hf5⟩ := bcellN hb5
        go_wp2_with fail
        refine (YearDay_any _ _ _ _).mono ?_; rintro e w6 ⟨rfl, hb6⟩
        go_wp2
        go_ret
        have q1 := hb1.size; have q2 := hb2.size; have q5 := (bundrewN hb5).size
        have B2 := hb1.trans (hb2.mono hb1.size)
        have B3 := (B2.alloc (by omega) _).trans (hb3.mono (by simp; omega))
        have B4 := ((bdrewN (n := 1) (((bdrewN (n := nq + 1) ((B3.alloc (by omega) _).alloc (by simp; omega) _)).setCell (by simp; omega) _).setCell (by simp; omega) _)).setCell (by simp; omega) _ |>.setCell (by simp; omega) _).trans (hb4.mono (by simp; omega))
        exact ⟨rfl, (B4.trans ((bundrewN hb5).mono (by omega))).trans (hb6.mono (by omega))⟩

theorem CivilNext_walk (x : Int) (w : World) (_ : -9223372036854775808 ≤ x) (_ : x ≤ 9223372036854775807) :
    Calls Try.prog 8 #[.int .i64 x] w fun e w' => e = .returned (.bool true) ∧ Below w.heap.size w w' := by
  by_cases h1 : x < -719162
  · go_enter Try.func8, Try.ntmps8
    go_wp2_with (go_at_call 14; refine (awake_any _).mono ?_; rintro e w1 ⟨rfl, hb1⟩)
    go_ret
    exact ⟨rfl, hb1⟩
  · by_cases h2 : 2932896 ≤ x
    · go_enter Try.func8, Try.ntmps8
      go_wp2_with (go_at_call 14; refine (awake_any _).mono ?_; rintro e w1 ⟨rfl, hb1⟩)
      go_ret
      exact ⟨rfl, hb1⟩
    · obtain ⟨y, m, d, hv, hx, hd⟩ := M.date_ex (x := x) (by omega)
      rcases M.next_day hv hx (by omega) with ⟨c1, c2, c3⟩ | ⟨c1, c2, c3, c4⟩ | ⟨c1, rfl, c3, c4⟩
      · exact CivilNext_in y m d x w (by omega) (by omega) hv hx hd c1 c2 c3
      · exact CivilNext_month y m d x w (by omega) (by omega) hv hx hd c1 c2 c3 c4
      · exact CivilNext_year y d x w (by omega) (by omega) hv hx hd c1 c3 c4

end Go.Proofs.Ytgjbcdbhbbimcaa
