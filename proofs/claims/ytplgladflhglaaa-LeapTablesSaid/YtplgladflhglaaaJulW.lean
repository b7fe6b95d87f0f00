/- Walks through the reference of the Julian calendar: the day of a Gregorian date. -/
import Derived.Test.YtplgladflhglaaaCivW3
namespace Go.Proofs.Ytplgladflhglaaa
set_option linter.unusedVariables false
set_option linter.unusedSimpArgs false
open Go.RowKit

/-- The Julian length of a month. -/
def M.jl (y m : Int) : Int :=
  if 1 ≤ y ∧ y ≤ 9999 ∧ 1 ≤ m ∧ m ≤ 12 then
    if m = 2 then (if y % 4 = 0 then 29 else 28) else if m = 4 ∨ m = 6 ∨ m = 9 ∨ m = 11 then 30 else 31
  else 0
theorem M.jl_0 {y m : Int} (h : ¬ (1 ≤ y ∧ y ≤ 9999 ∧ 1 ≤ m ∧ m ≤ 12)) : M.jl y m = 0 := by simp only [M.jl, if_neg h]
theorem M.jl_2 {y : Int} (h : 1 ≤ y ∧ y ≤ 9999) : M.jl y 2 = if y % 4 = 0 then 29 else 28 := by simp [M.jl, h]
theorem M.jl_of {y m : Int} (h : 1 ≤ y ∧ y ≤ 9999) (h1 : 1 ≤ m) (h12 : m ≤ 12) (h2 : m ≠ 2) : M.jl y m = if m = 4 ∨ m = 6 ∨ m = 9 ∨ m = 11 then 30 else 31 := by simp [M.jl, h, h1, h12, h2]
/-- By how much the Julian February is longer. -/
def M.ext (y : Int) : Int := if y % 4 = 0 ∧ M.leap y = false then 1 else 0
theorem M.jl_len {y m : Int} (h : 1 ≤ y ∧ y ≤ 9999) (hm : 1 ≤ m ∧ m ≤ 12) : M.jl y m = M.len y m + (if m = 2 then M.ext y else 0) := by
  by_cases h2 : m = 2
  · subst h2
    have hl := M.leap_iff h
    rw [M.jl_2 h, if_pos rfl]
    unfold M.ext
    cases hb : M.leap y
    · rw [M.len_28 h hb]; split <;> simp_all
    · rw [M.len_29 h hb]; rw [hb] at hl; simp only [true_iff] at hl; rw [if_pos hl.1]; simp
  · rw [M.jl_of h hm.1 hm.2 h2, M.len_of h hm.1 hm.2 h2, if_neg h2]; omega

theorem jLength_any (y m : Int) (w : World) (h1 : 0 ≤ y) (h2 : y ≤ 9999) (h3 : 0 ≤ m) (h4 : m ≤ 99) :
    Calls Try.prog 66 #[.int .i64 y, .int .i64 m] w fun e w' => e = .returned (.int .i64 (M.jl y m)) ∧ w = w' := by
  by_cases hb : 1 ≤ y ∧ y ≤ 9999 ∧ 1 ≤ m ∧ m ≤ 12
  · obtain ⟨b1, b2, b3, b4⟩ := hb
    by_cases m2 : m = 2
    · subst m2
      have R := Lib.hid (M.jl_2 ⟨b1, b2⟩)
      by_cases h : y % 4 = 0
      · have e : (y % 4 == 0) = true := by simp [h]
        have R' : Hid (M.jl y 2 = 29) := Lib.hid (by rw [R.out, if_pos h])
        clear h
        go_enter Try.func66, Try.ntmps66
        go_wp2; go_ret
        exact ⟨ret_int R'.out.symm, rfl⟩
      · have e : (y % 4 == 0) = false := by simp [h]
        have R' : Hid (M.jl y 2 = 28) := Lib.hid (by rw [R.out, if_neg h])
        clear h
        go_enter Try.func66, Try.ntmps66
        go_wp2; go_ret
        exact ⟨ret_int R'.out.symm, rfl⟩
    · have R := Lib.hid (M.jl_of ⟨b1, b2⟩ b3 b4 m2)
      have hc : m = 1 ∨ m = 3 ∨ m = 4 ∨ m = 5 ∨ m = 6 ∨ m = 7 ∨ m = 8 ∨ m = 9 ∨ m = 10 ∨ m = 11 ∨ m = 12 := by omega
      rcases hc with rfl | rfl | rfl | rfl | rfl | rfl | rfl | rfl | rfl | rfl | rfl
      all_goals
        go_enter Try.func66, Try.ntmps66
        go_wp2; go_ret
        exact ⟨ret_int (by rw [R.out]; rfl), rfl⟩
  · have R := Lib.hid (M.jl_0 hb)
    have hb' : y < 1 ∨ (1 ≤ y ∧ m < 1) ∨ (1 ≤ y ∧ 1 ≤ m ∧ 12 < m) := by omega
    clear hb
    rcases hb' with h | ⟨h, h'⟩ | ⟨h, h', h''⟩
    all_goals
      go_enter Try.func66, Try.ntmps66
      go_wp2; go_ret
      exact ⟨ret_int R.out.symm, rfl⟩

def M.lp (y : Int) : Bool := decide (y % 4 = 0 ∧ (y % 100 ≠ 0 ∨ y % 400 = 0))
theorem jleap_any (y : Int) (w : World) (h1 : 0 ≤ y) (h2 : y ≤ 9999) :
    Calls Try.prog 67 #[.int .i64 y] w fun e w' => e = .returned (.bool (M.lp y)) ∧ w = w' := by
  have e4 : (y % 4 == 0) = true ∨ (y % 4 == 0) = false := by cases (y % 4 == 0) <;> simp
  have e1 : (y % 100 != 0) = true ∨ (y % 100 != 0) = false := by cases (y % 100 != 0) <;> simp
  have e0 : (y % 400 == 0) = true ∨ (y % 400 == 0) = false := by cases (y % 400 == 0) <;> simp
  have V : Hid (M.lp y = ((y % 4 == 0) && ((y % 100 != 0) || (y % 400 == 0)))) := Lib.hid (by
    rw [Bool.eq_iff_iff]; simp [M.lp])
  rcases e4 with e4 | e4 <;> rcases e1 with e1 | e1 <;> rcases e0 with e0 | e0
  all_goals
    have V' : Hid (M.lp y = _) := Lib.hid (V.out.trans (by rw [e4, e1, e0]))
    go_enter Try.func67, Try.ntmps67
    go_wp2; go_ret
    exact ⟨ret_bool (by rw [V'.out]; rfl), rfl⟩
theorem jLeap_any (y : Int) (w : World) (h1 : 1 ≤ y) (h2 : y ≤ 9999) :
    Calls Try.prog 68 #[.int .i64 y] w fun e w' => e = .returned (.bool (y % 4 == 0)) ∧ w = w' := by
  go_enter Try.func68, Try.ntmps68
  go_wp2; go_ret
  exact ⟨rfl, rfl⟩

end Go.Proofs.Ytplgladflhglaaa
