/- Walks: what is on the line, valid spans. -/
import Derived.Test.YtainibnjpkbfpaaIntW
import Derived.Test.YtainibnjpkbfpaaCalMem
import Derived.Deep.RegionWith
namespace Go.Proofs.Ytainibnjpkbfpaa.Cv
set_option linter.unusedVariables false
set_option linter.unusedSimpArgs false
open Go.RowKit Wl

theorem half_any (x : Int) (w : World) : Calls Try.prog 74 #[.int .i64 x] w fun e w' => e = .returned (.bool (half x)) ∧ w = w' := by
  have R : Hid ((decide (-2199023255552 ≤ x) && decide (x ≤ 2199023255552)) = half x) := Lib.hid (by unfold half; rw [Bool.decide_and])
  rcases h1 : decide (-2199023255552 ≤ x) with _ | _
  all_goals
    go_enter Try.func74, Try.ntmps74
    go_wp2
    go_ret
    exact ⟨ret_bool (by rw [← R.out, h1]; simp), rfl⟩
theorem gline_any (x : Int) (w : World) : Calls Try.prog 48 #[.int .i64 x] w fun e w' => e = .returned (.bool (line x)) ∧ w = w' := by
  have R : Hid ((decide (-4398046511104 ≤ x) && decide (x ≤ 4398046511104)) = line x) := Lib.hid (by unfold line; rw [Bool.decide_and])
  rcases h1 : decide (-4398046511104 ≤ x) with _ | _
  all_goals
    go_enter Try.func48, Try.ntmps48
    go_wp2
    go_ret
    exact ⟨ret_bool (by rw [← R.out, h1]; simp), rfl⟩
theorem iline_any (x : Int) (w : World) : Calls Try.prog 82 #[.int .i64 x] w fun e w' => e = .returned (.bool (line x)) ∧ w = w' := by
  have R : Hid ((decide (-4398046511104 ≤ x) && decide (x ≤ 4398046511104)) = line x) := Lib.hid (by unfold line; rw [Bool.decide_and])
  rcases h1 : decide (-4398046511104 ≤ x) with _ | _
  all_goals
    go_enter Try.func82, Try.ntmps82
    go_wp2
    go_ret
    exact ⟨ret_bool (by rw [← R.out, h1]; simp), rfl⟩
theorem r10line_any (x : Int) (w : World) : Calls Try.prog 85 #[.int .i64 x] w fun e w' => e = .returned (.bool (line x)) ∧ w = w' := by
  have R : Hid ((decide (-4398046511104 ≤ x) && decide (x ≤ 4398046511104)) = line x) := Lib.hid (by unfold line; rw [Bool.decide_and])
  rcases h1 : decide (-4398046511104 ≤ x) with _ | _
  all_goals
    go_enter Try.func85, Try.ntmps85
    go_wp2
    go_ret
    exact ⟨ret_bool (by rw [← R.out, h1]; simp), rfl⟩
theorem r17line_any (x : Int) (w : World) : Calls Try.prog 19 #[.int .i64 x] w fun e w' => e = .returned (.bool (line x)) ∧ w = w' := by
  have R : Hid ((decide (-4398046511104 ≤ x) && decide (x ≤ 4398046511104)) = line x) := Lib.hid (by unfold line; rw [Bool.decide_and])
  rcases h1 : decide (-4398046511104 ≤ x) with _ | _
  all_goals
    go_enter Try.func19, Try.ntmps19
    go_wp2
    go_ret
    exact ⟨ret_bool (by rw [← R.out, h1]; simp), rfl⟩
theorem svld_eq (a b : Int) : svld (a, b) = (line a && line b && decide (a < b)) := by
  unfold svld line
  by_cases h1 : -4398046511104 ≤ a ∧ a ≤ 4398046511104 <;> by_cases h2 : -4398046511104 ≤ b ∧ b ≤ 4398046511104 <;> by_cases h3 : a < b <;> simp [h1, h2, h3] <;> omega
theorem iValid_any (a b : Int) (w : World) : Calls Try.prog 52 #[.agg #[.int .i64 a, .int .i64 b]] w fun e w' => e = .returned (.bool (svld (a, b))) ∧ Below w.heap.size w w' := by
  have R := Lib.hid (svld_eq a b)
  rcases h1 : line a with _ | _ <;> rcases h2 : line b with _ | _
  all_goals
    go_enter Try.func52, Try.ntmps52
    go_wp2_with (first
      | (go_at_call_of 82 (Value.int IntKind.i64 a); refine (iline_any a _).mono ?_; rintro e w' ⟨rfl, rfl⟩)
      | (go_at_call_of 82 (Value.int IntKind.i64 b); refine (iline_any b _).mono ?_; rintro e w' ⟨rfl, rfl⟩))
    go_ret
    exact ⟨ret_bool (by rw [R.out, h1, h2]; simp), (Below.refl _ _).alloc (Nat.le_refl _) _⟩
theorem r10Valid_any (a b : Int) (w : World) : Calls Try.prog 78 #[.agg #[.int .i64 a, .int .i64 b]] w fun e w' => e = .returned (.bool (svld (a, b))) ∧ Below w.heap.size w w' := by
  have R := Lib.hid (svld_eq a b)
  rcases h1 : line a with _ | _ <;> rcases h2 : line b with _ | _
  all_goals
    go_enter Try.func78, Try.ntmps78
    go_wp2_with (first
      | (go_at_call_of 85 (Value.int IntKind.i64 a); refine (r10line_any a _).mono ?_; rintro e w' ⟨rfl, rfl⟩)
      | (go_at_call_of 85 (Value.int IntKind.i64 b); refine (r10line_any b _).mono ?_; rintro e w' ⟨rfl, rfl⟩))
    go_ret
    exact ⟨ret_bool (by rw [R.out, h1, h2]; simp), (Below.refl _ _).alloc (Nat.le_refl _) _⟩
end Go.Proofs.Ytainibnjpkbfpaa.Cv
