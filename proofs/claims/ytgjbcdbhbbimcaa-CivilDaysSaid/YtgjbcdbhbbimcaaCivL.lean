/- Walks through the laws of chapter 2 that hold the program against the reference. -/
import Derived.Test.YtgjbcdbhbbimcaaCivAw
namespace Go.Proofs.Ytgjbcdbhbbimcaa
set_option linter.unusedVariables false
set_option linter.unusedSimpArgs false
open Go.RowKit

theorem CivilLengths_walk (y m d x : Int) (w : World) (_ : -9223372036854775808 ≤ y) (_ : y ≤ 9223372036854775807) (_ : -9223372036854775808 ≤ m) (_ : m ≤ 9223372036854775807) (_ : -9223372036854775808 ≤ d) (_ : d ≤ 9223372036854775807) (_ : -9223372036854775808 ≤ x) (_ : x ≤ 9223372036854775807) :
    Calls Try.prog 3 #[.agg #[.int .i64 y, .int .i64 m, .int .i64 d], .int .i64 x] w fun e w' => e = .returned (.bool true) ∧ Below w.heap.size w w' := by
  go_enter Try.func3, Try.ntmps3
  go_wp2_with (go_at_call 14; refine (awake_any _).mono ?_; rintro e w1 ⟨rfl, hb⟩; obtain ⟨hc, hf⟩ := bcell hb)
  have hS := Abv.cells w1
  have hz : w.heap.size < w1.heap.size := by have := hb.size; simp at this; omega
  refine wp_region_abv (by kernel_rfl) (by kernel_rfl) ?_
  repeat (go_big_quiet_step ((first
   | (go_at_call 15; exact abv_call (Valid_any _ _ _ _))
   | (go_at_call 16; exact abv_call (rValid_any _ _ _ _))
   | (go_at_call 17; exact abv_same (Leap_any _ _))
   | (go_at_call 18; exact abv_same (rLeap_any _ _))
   | (go_at_call 19; exact abv_same (Length_any _ _ _))
   | (go_at_call 20; exact abv_same (rLength_any _ _ _))
   | (go_at_call 21; exact abv_drew (Weekday_any _ _))
   | (go_at_call 22; exact abv_same (rWeekday_any _ _))
   | (go_at_call 23; exact abv_call (YearDay_any _ _ _ _))
   | (go_at_call 24; exact abv_call (rYearDay_any _ _ _ _)))))
  refine wpQuiet_nil ?_
  rintro w2 hb2
  go_wp2
  go_ret
  exact ⟨rfl, (((Below.refl _ _).alloc (Nat.le_refl _) _).trans (hb.mono (by simp))).trans (hb2.mono (by omega))⟩

theorem CivilMonths_walk (y m d n : Int) (w : World) (_ : -9223372036854775808 ≤ y) (_ : y ≤ 9223372036854775807) (_ : -9223372036854775808 ≤ m) (_ : m ≤ 9223372036854775807) (_ : -9223372036854775808 ≤ d) (_ : d ≤ 9223372036854775807) (n1 : -9223372036854775808 ≤ n) (n2 : n ≤ 9223372036854775807) :
    Calls Try.prog 4 #[.agg #[.int .i64 y, .int .i64 m, .int .i64 d], .int .i64 n] w fun e w' => e = .returned (.bool true) ∧ Below w.heap.size w w' := by
  go_enter Try.func4, Try.ntmps4
  go_wp2_with (go_at_call 14; refine (awake_any _).mono ?_; rintro e w1 ⟨rfl, hb1⟩; obtain ⟨hc1, hf1⟩ := bcell hb1)
  have z1 : w.heap.size < w1.heap.size := by have := hb1.size; simp at this; omega
  have B1 : Below w.heap.size w w1 := ((Below.refl _ _).alloc (Nat.le_refl _) _).trans (hb1.mono (by simp))
  refine (AddMonths_any _ _ _ _ _ n1 n2).mono ?_; rintro e w2 ⟨rfl, hb2⟩; obtain ⟨hc2, hf2⟩ := bcell hb2
  have z2 : w.heap.size < w2.heap.size := by have := hb2.size; omega
  go_wp2_with fail
  refine (rAddMonths_any _ _ _ _ _ n1 n2).mono ?_; rintro e w3 ⟨rfl, hb3⟩; obtain ⟨hc3, hf3⟩ := bcell hb3
  have z3 : w2.heap.size < w3.heap.size := by have := hb3.size; simp at this; omega
  go_wp2
  go_ret
  exact ⟨rfl, ((((B1.trans (hb2.mono (by omega))).alloc (by omega) _).trans (hb3.mono (by simp; omega))).alloc (by omega) _)⟩

theorem CivilNth_walk (y m k n : Int) (w : World) (_ : -9223372036854775808 ≤ y) (_ : y ≤ 9223372036854775807) (_ : -9223372036854775808 ≤ m) (_ : m ≤ 9223372036854775807) (_ : -9223372036854775808 ≤ k) (_ : k ≤ 9223372036854775807) (n1 : -9223372036854775808 ≤ n) (n2 : n ≤ 9223372036854775807) :
    Calls Try.prog 5 #[.int .i64 y, .int .i64 m, .int .i64 k, .int .i64 n] w fun e w' => e = .returned (.bool true) ∧ Below w.heap.size w w' := by
  go_enter Try.func5, Try.ntmps5
  go_wp2_with (first
    | (go_at_call 14; refine (awake_any _).mono ?_; rintro e w1 ⟨rfl, hb1⟩)
    | (go_at_call 27; refine (Nth_any _ _ _ _ _ n1 n2).mono ?_; rintro e w' ⟨rfl, j, rfl⟩)
    | (go_at_call 28; refine (rNth_any _ _ _ _ _ n1 n2).mono ?_; rintro e w3 ⟨rfl, hb3⟩))
  go_ret
  exact ⟨rfl, (bdrewN hb1).trans (hb3.mono (by have := hb1.size; simp; omega))⟩

theorem CivilDays_walk (y m d x : Int) (w : World) (_ : -9223372036854775808 ≤ y) (_ : y ≤ 9223372036854775807) (_ : -9223372036854775808 ≤ m) (_ : m ≤ 9223372036854775807) (_ : -9223372036854775808 ≤ d) (_ : d ≤ 9223372036854775807) (_ : -9223372036854775808 ≤ x) (_ : x ≤ 9223372036854775807) :
    Calls Try.prog 7 #[.agg #[.int .i64 y, .int .i64 m, .int .i64 d], .int .i64 x] w fun e w' => e = .returned (.bool true) ∧ Below w.heap.size w w' := by
  go_enter Try.func7, Try.ntmps7
  go_wp2_with (go_at_call 14; refine (awake_any _).mono ?_; rintro e w1 ⟨rfl, hb1⟩; obtain ⟨hc1, hf1⟩ := bcell hb1)
  have z1 : w.heap.size < w1.heap.size := by have := hb1.size; simp at this; omega
  have B1 : Below w.heap.size w w1 := ((Below.refl _ _).alloc (Nat.le_refl _) _).trans (hb1.mono (by simp))
  refine (Day_any _ _ _ _).mono ?_; rintro e w2 ⟨rfl, hb2⟩; obtain ⟨hc2, hf2⟩ := bcell hb2
  have z2 : w.heap.size < w2.heap.size := by have := hb2.size; omega
  go_wp2_with fail
  refine (rDay_any _ _ _ _).mono ?_; rintro e w3 ⟨rfl, hb3⟩; obtain ⟨hc3, hf3⟩ := bcell hb3
  have z3 : w2.heap.size ≤ w3.heap.size := hb3.size
  go_wp2_with fail
  refine (Date_any _ _).mono ?_; rintro e w4 ⟨rfl, hb4⟩; obtain ⟨hc4, hf4⟩ := bcell hb4
  have z4 : w3.heap.size ≤ w4.heap.size := hb4.size
  go_wp2_with fail
  refine (rDate_any _ _).mono ?_; rintro e w5 ⟨rfl, hb5⟩; obtain ⟨hc5, hf5⟩ := bcell hb5
  have z5 : w4.heap.size < w5.heap.size := by have := hb5.size; simp at this; omega
  go_wp2
  go_ret
  exact ⟨rfl, ((((B1.trans (hb2.mono (by omega))).trans (hb3.mono (by omega))).trans (hb4.mono (by omega))).alloc (by omega) _ |>.trans (hb5.mono (by simp; omega))).alloc (by omega) _⟩

end Go.Proofs.Ytgjbcdbhbbimcaa
