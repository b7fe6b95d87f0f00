/- The examples of the chapter hold. -/
import Derived.Test.YtgjbcdbhbbimcaaCivW2
import Derived.Test.YtgjbcdbhbbimcaaCivW4
namespace Go.Proofs.Ytgjbcdbhbbimcaa
set_option linter.unusedVariables false
set_option linter.unusedSimpArgs false
open Go.RowKit

theorem awake_any (w : World) : Calls Try.prog 14 #[] w fun e w' => e = .returned (.bool true) ∧ Below w.heap.size w w' := by
  have a1 : M.am 2024 1 31 1 = ((2024, 2, 29), 0) := by decide
  have a2 : M.am 2024 2 29 12 = ((2025, 2, 28), 0) := by decide
  have n1 : M.nth 2024 2 5 (-1) = (19776, 0) := by decide
  have n2 : M.nth 2024 2 5 5 = (0, 7) := by decide
  have d1 : M.dy 2024 2 29 = 19782 := by decide
  have d2 : M.de 2024 2 29 = 0 := by decide
  have v1 : M.wd 19782 = 4 := by decide
  have v2 : M.yday 2024 2 29 = 60 := by decide
  have hA := Lib.hid (And.intro a1 a2)
  have hN := Lib.hid (And.intro n1 n2)
  have hD := Lib.hid (And.intro d1 (And.intro d2 (And.intro v1 v2)))
  clear a1 a2 n1 n2 d1 d2 v1 v2
  go_enter Try.func14, Try.ntmps14
  go_wp2_with fail
  refine (Day_any _ _ _ _).mono ?_; rw [hD.out.1, hD.out.2.1]; rintro e w1 ⟨rfl, hb1⟩; obtain ⟨hc1, hf1⟩ := bcell hb1
  have z1 : w.heap.size < w1.heap.size := by have := hb1.size; simp at this; omega
  go_wp2_with fail
  refine (AddMonths_any _ _ _ _ _ (by omega) (by omega)).mono ?_; rw [hA.out.1]; rintro e w2 ⟨rfl, hb2⟩; obtain ⟨hc2, hf2⟩ := bcell hb2
  have z2 : w.heap.size < w2.heap.size := by have := hb2.size; omega
  go_wp2_with fail
  refine (AddMonths_any _ _ _ _ _ (by omega) (by omega)).mono ?_; rw [hA.out.2]; rintro e w3 ⟨rfl, hb3⟩; obtain ⟨hc3, hf3⟩ := bcell hb3
  have z3 : w.heap.size < w3.heap.size := by have := hb3.size; simp at this; omega
  have z3' : w2.heap.size < w3.heap.size := by have := hb3.size; simp at this; omega
  have z3n : w.heap.size ≠ w2.heap.size := by omega
  go_wp2_with fail
  refine (Nth_any _ _ _ _ _ (by omega) (by omega)).mono ?_; rw [hN.out.1]; rintro e w' ⟨rfl, j1, rfl⟩
  go_wp2_with fail
  refine (Nth_any _ _ _ _ _ (by omega) (by omega)).mono ?_; rw [hN.out.2]; rintro e w' ⟨rfl, j2, rfl⟩
  go_wp2_with fail
  refine (Weekday_any _ _).mono ?_; rw [hD.out.2.2.1]; rintro e w' ⟨rfl, j3, rfl⟩
  go_wp2_with fail
  refine (YearDay_any _ _ _ _).mono ?_; rw [hD.out.2.2.2]; rintro e w4 ⟨rfl, hb4⟩; obtain ⟨hc4, hf4⟩ := bcell hb4
  have z4 : w.heap.size < w4.heap.size := by have := hb4.size; simp at this; omega
  go_wp2
  go_ret
  have B1 : Below w.heap.size w w1 := ((Below.refl _ _).alloc (Nat.le_refl _) _).trans (hb1.mono (by simp))
  have B2 : Below w.heap.size w w2 := B1.trans (hb2.mono (by omega))
  have B3 : Below w.heap.size w w3 := (B2.alloc (by omega) _).trans (hb3.mono (by simp; omega))
  exact ⟨rfl, (bdrewN (B3.alloc (by omega) _)).trans (hb4.mono (by simp; omega))⟩

end Go.Proofs.Ytgjbcdbhbbimcaa
