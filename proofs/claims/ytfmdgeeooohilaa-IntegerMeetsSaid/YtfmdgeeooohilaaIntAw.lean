/- The example of the chapter holds. -/
import Derived.Test.YtfmdgeeooohilaaIntW4
import Derived.Deep.RegionWith
namespace Go.Proofs.Ytfmdgeeooohilaa
set_option linter.unusedVariables false
set_option linter.unusedSimpArgs false
open Go.RowKit

/-- A quotient whose high part is zero. -/
theorem Div64_small (lo y : Int) (w : World) (h1 : 0 ≤ lo) (h2 : lo ≤ 18446744073709551615) (h3 : 1 ≤ y) (h4 : y ≤ 18446744073709551615) :
    Calls Try.prog 33 #[.int .u64 0, .int .u64 lo, .int .u64 y] w fun e w' => e = .returned (.tuple #[.int .u64 (lo / y), .int .u64 (lo % y)]) ∧ ∃ n, w' = w.drewN n := by
  have y0 : (y == 0) = false := by simp; omega
  have q0 : 0 ≤ lo / y := Int.ediv_nonneg h1 (by omega)
  have q1 : lo / y ≤ lo := Int.ediv_le_self _ h1
  have m0 := Int.emod_nonneg lo (show y ≠ 0 by omega)
  go_enter Try.func33, Try.ntmps33
  go_wp2
  go_quiet (fail)
  go_wp2
  go_ret2
  exact ⟨rfl, _, rfl⟩

theorem Mod_at {a b r : Int} (w : World) (h1 : -9223372036854775808 ≤ a) (h2 : a ≤ 9223372036854775807) (h3 : 1 ≤ b) (h4 : b ≤ 9223372036854775807) (h : a % b = r) :
    Calls Try.prog 19 #[.int .i64 a, .int .i64 b] w fun e w' => e = .returned (.int .i64 r) ∧ ∃ n, w' = w.drewN n := h ▸ Mod_pos a b w h1 h2 h3 h4

theorem Meet_awake (w : World) : Calls Try.prog 17 #[.int .i64 2, .int .i64 3, .int .i64 3, .int .i64 5] w fun e w' => e = .returned (.tuple #[.int .i64 8, .int .i64 15, .bool true]) ∧ ∃ n, w' = w.drewN n := by
  have l : M.lc 3 5 = (15, 0) := by decide
  have g : M.gc 3 5 = 1 := by decide
  have i : M.inv 3 5 = 2 := M.inv_eq (by decide) ⟨by omega, by omega, by decide⟩
  have L := Lib.hid (And.intro l (And.intro g i))
  clear l g i
  have I : ∀ w, Calls Try.prog 32 #[.int .i64 3, .int .i64 5] w fun e w' => e = .returned (.int .i64 2) ∧ ∃ n, w' = w.drewN n := fun w => by
    have := inverse_any 3 5 w (by omega) (by omega) (by omega) (by omega) (Lib.hid (by decide))
    rw [L.out.2.2] at this; exact this
  have M64 : ∀ w, Calls Try.prog 31 #[.int .u64 1, .int .u64 2] w fun e w' => e = .returned (.tuple #[.int .u64 0, .int .u64 2]) ∧ w = w' := fun w =>
    (Try.bits_Mul64 1 2 (by omega) (by omega) w).mono fun _ _ ⟨he, hw⟩ => ⟨he, hw.symm⟩
  have HI := Lib.hid (And.intro I M64)
  clear I M64
  go_enter Try.func17, Try.ntmps17
  go_wp2_with fail
  refine (Lcm_any _ _ _ (by omega) (by omega) (by omega) (by omega)).mono ?_; rw [L.out.1]; rintro e w' ⟨rfl, n1, rfl⟩
  go_wp2_with fail
  refine (Gcd_any _ _ _ (by omega) (by omega) (by omega) (by omega)).mono ?_; rw [L.out.2.1]; rintro e w' ⟨rfl, n2, rfl⟩
  go_wp2_with fail
  refine (Mod_at (r := 2) _ (by omega) (by omega) (by omega) (by omega) (by decide)).mono ?_; rintro e w' ⟨rfl, n3, rfl⟩
  go_wp2_with fail
  refine (Mod_at (r := 3) _ (by omega) (by omega) (by omega) (by omega) (by decide)).mono ?_; rintro e w' ⟨rfl, n4, rfl⟩
  go_wp2_with fail
  refine (Mod_at (r := 2) _ (by omega) (by omega) (by omega) (by omega) (by decide)).mono ?_; rintro e w' ⟨rfl, n5, rfl⟩
  go_wp2_with fail
  refine (Mod_at (r := 1) _ (by omega) (by omega) (by omega) (by omega) (by decide)).mono ?_; rintro e w' ⟨rfl, n6, rfl⟩
  go_wp2_with fail
  go_quiet ((first | (go_at_call 32; first | exact q_drew (HI.out.1 _) | exact q0_drew (HI.out.1 _)) | (go_at_call 31; first | exact q_same (HI.out.2 _) | exact q0_same (HI.out.2 _))))
  go_wp2_with fail
  refine (Div64_small _ _ _ (by omega) (by omega) (by omega) (by omega)).mono ?_; rintro e w' ⟨rfl, n7, rfl⟩
  go_wp2
  go_ret3
  exact ⟨rfl, _, rfl⟩

theorem awake_any (w : World) : Calls Try.prog 13 #[] w fun e w' => e = .returned (.bool true) ∧ Below w.heap.size w w' := by
  have d : M.dv (-7) 2 = ((-4, 1), 0) := by decide
  have t : strOfNums (M.txt (-7) 3) = ⟨#[45, 48, 48, 55]⟩ := by decide
  have D := Lib.hid (And.intro d t)
  clear d t
  go_enter Try.func13, Try.ntmps13
  go_wp2_with fail
  refine (Div_any _ _ _ (by omega) (by omega) (by omega) (by omega)).mono ?_; rw [D.out.1]; rintro e w' ⟨rfl, n1, rfl⟩
  go_wp2_with fail
  refine (Meet_awake _).mono ?_; rintro e w' ⟨rfl, n2, rfl⟩
  go_wp2_with fail
  refine (Text_any _ _ _ (by omega) (by omega) (by omega) (by omega)).mono ?_; rw [D.out.2]; rintro e w1 ⟨rfl, hb⟩
  go_wp2
  go_ret
  exact ⟨rfl, bundrewN hb⟩

end Go.Proofs.Ytfmdgeeooohilaa
