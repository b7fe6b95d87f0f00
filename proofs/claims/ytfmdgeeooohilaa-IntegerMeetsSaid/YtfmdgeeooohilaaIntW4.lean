/- Walks through package integer: inverses. -/
import Derived.Test.YtfmdgeeooohilaaIntW3
import Derived.Test.YtfmdgeeooohilaaIntM3
namespace Go.Proofs.Ytfmdgeeooohilaa
set_option linter.unusedVariables false
set_option linter.unusedSimpArgs false
open Go.RowKit

theorem inverse_any (a n : Int) (w : World) (h1 : 0 ≤ a) (h2 : a ≤ 9223372036854775807) (h3 : 1 ≤ n) (h4 : n ≤ 9223372036854775807) (hg : Hid (Nat.gcd a.natAbs n.natAbs = 1)) :
    Calls Try.prog 32 #[.int .i64 a, .int .i64 n] w fun e w' => e = .returned (.int .i64 (M.inv a n)) ∧ ∃ j, w' = w.drewN j := by
  go_enter Try.func32, Try.ntmps32
  go_wp2
  go_loop [5, 6, 7, 8, 9] (fun r s x y _ => ∃ R S X Y : Int, r = .int .i64 R ∧ s = .int .i64 S ∧ x = .int .i64 X ∧ y = .int .i64 Y ∧ R ≤ 9223372036854775807 ∧ S ≤ 9223372036854775807 ∧ (X.natAbs : Int) ≤ n ∧ (Y.natAbs : Int) ≤ n ∧ Hid (M.Euc a n R S X Y)) (fun _ s _ _ _ => (intOf s).toNat)
  case atStart => exact ⟨a, n, 1, 0, rfl, rfl, rfl, rfl, h2, h4, by simp; omega, by simp; omega, Lib.hid (M.Euc.start h1 h3 hg.out)⟩
  case round =>
    obtain ⟨R, S, X, Y, rfl, rfl, rfl, rfl, hR, hS, hXn, hYn, hE⟩ := hrel
    have r0 := hE.out.r0
    have s0 := hE.out.s0
    by_cases hz : S = 0
    · have hz0 : (S != 0) = false := by simp [hz]
      have E : Hid (M.inv a n = X % n) := Lib.hid (M.Euc.last (hz ▸ hE.out) hg.out)
      clear hz
      go_wp2_with (go_at_call 19; refine (Mod_pos _ _ _ (by omega) (by omega) (by omega) (by omega)).mono ?_; rintro e w' ⟨rfl, j, rfl⟩)
      go_ret
      exact ⟨ret_int E.out.symm, _, rfl⟩
    · have hz0 : (S != 0) = true := by simp [hz]
      have s1 : 1 ≤ S := by omega
      obtain ⟨q1, q2, q3, q4, E, q5⟩ := hE.out.round s1
      have qb := hE.out.bound s1
      have q0 : 0 ≤ R / S := Int.ediv_nonneg r0 (by omega)
      have EE := Lib.hid E
      have qs : R / S ≤ 9223372036854775807 := by have := Int.ediv_le_self S r0; omega
      clear hz E
      go_wp2
      go_round
      case rel => exact ⟨S, R - R / S * S, Y, X - R / S * Y, rfl, rfl, rfl, rfl, hS, by omega, hYn, q4, EE⟩
      case measure => simp [intOf]; omega

end Go.Proofs.Ytfmdgeeooohilaa
